import Derived.Test.YtfegchonclhjjaaPr
namespace Go.Proofs.Ytfegchonclhjjaa
open Go.RowKit
/-! When nothing behind can change the first sign. -/
theorem ct_iff (l : Bs) (k : Nat) : ct l k = true ↔ k < l.length ∧ 128 ≤ at' l k ∧ at' l k ≤ 191 := by
  unfold ct
  simp only [Bool.and_eq_true, decide_eq_true_eq, beq_iff_eq]
  omega
/-- The bytes of a sign of more than one stand at the beginning. -/
def okS (l : Bs) : Prop := 1 ≤ (tl (at' l 0)).1 ∧ (tl (at' l 0)).1 < l.length ∧ (tl (at' l 0)).2.1 ≤ at' l 1 ∧ at' l 1 ≤ (tl (at' l 0)).2.2 ∧
  (2 ≤ (tl (at' l 0)).1 → 128 ≤ at' l 2 ∧ at' l 2 ≤ 191) ∧ (3 ≤ (tl (at' l 0)).1 → 128 ≤ at' l 3 ∧ at' l 3 ≤ 191)
theorem tl_cases (x : Nat) : (194 ≤ x ∧ x ≤ 223 ∧ tl x = (1, 128, 191)) ∨ (x = 224 ∧ tl x = (2, 160, 191)) ∨ (x = 237 ∧ tl x = (2, 128, 159)) ∨
    (225 ≤ x ∧ x ≤ 239 ∧ x ≠ 237 ∧ tl x = (2, 128, 191)) ∨ (x = 240 ∧ tl x = (3, 144, 191)) ∨ (241 ≤ x ∧ x ≤ 243 ∧ tl x = (3, 128, 191)) ∨ (x = 244 ∧ tl x = (3, 128, 143)) ∨
    ((x < 194 ∨ 244 < x) ∧ tl x = (0, 0, 0)) := by
  unfold tl
  repeat' split
  all_goals (simp; try omega)
theorem dec_ok {l : Bs} (h : l ≠ []) : (okS l → (dec l).2 = (tl (at' l 0)).1 + 1) ∧ (¬ okS l → (dec l).2 = 1) := by
  have h0 : 0 < l.length := List.length_pos_iff.2 h
  have hx := at_lt l 0
  have h1 := at_lt l 1
  have h2 := at_lt l 2
  have h3 := at_lt l 3
  have c1 := ct_iff l 1
  have c2 := ct_iff l 2
  have c3 := ct_iff l 3
  have hv3 := valid_iff ((at' l 0 % 16 * 4096 + at' l 1 % 64 * 64 + at' l 2 % 64 : Nat) : Int)
  have hv4 := valid_iff ((at' l 0 % 8 * 262144 + at' l 1 % 64 * 4096 + at' l 2 % 64 * 64 + at' l 3 % 64 : Nat) : Int)
  have ht := tl_cases (at' l 0)
  unfold okS dec
  dsimp only
  generalize at' l 0 = x at *
  generalize at' l 1 = y at *
  generalize at' l 2 = z at *
  generalize at' l 3 = u at *
  repeat' split
  all_goals (try simp only [Bool.and_eq_true, decide_eq_true_eq, beq_iff_eq, c1, c2, c3, hv3, hv4, ge_iff_le] at *)
  all_goals (try dsimp only)
  all_goals (rcases ht with ⟨a, b, ht⟩ | ⟨a, ht⟩ | ⟨a, ht⟩ | ⟨a, b, b', ht⟩ | ⟨a, ht⟩ | ⟨a, b, ht⟩ | ⟨a, ht⟩ | ⟨a, ht⟩)
  all_goals (rw [ht]; dsimp only; constructor <;> intro hh)
  all_goals omega
/-- Not whole: what is there goes on. -/
theorem whole_iff (l : Bs) : whole l = false ↔ l = [] ∨ (l.length ≤ (tl (at' l 0)).1 ∧ (2 ≤ l.length → (tl (at' l 0)).2.1 ≤ at' l 1 ∧ at' l 1 ≤ (tl (at' l 0)).2.2) ∧ (3 ≤ l.length → 128 ≤ at' l 2 ∧ at' l 2 ≤ 191)) := by
  unfold whole
  by_cases h : l = []
  · simp [h]
  rw [if_neg h]
  have h0 : 0 < l.length := List.length_pos_iff.2 h
  have ht := tl_cases (at' l 0)
  generalize at' l 0 = x at *
  have key : ∀ n lo hi, n ≤ 3 → (wk l n n 1 lo hi = false ↔ (l.length ≤ n ∧ (2 ≤ l.length → lo ≤ at' l 1 ∧ at' l 1 ≤ hi) ∧ (3 ≤ l.length → 128 ≤ at' l 2 ∧ at' l 2 ≤ 191))) := by
    intro n lo hi hn
    have hn' : n = 0 ∨ n = 1 ∨ n = 2 ∨ n = 3 := by omega
    rcases hn' with rfl | rfl | rfl | rfl
    · simp only [wk, Bool.true_eq_false, false_iff]; omega
    · simp only [wk]
      repeat' split
      all_goals (simp only [Bool.true_eq_false, false_iff, true_iff] at *; omega)
    · simp only [wk]
      repeat' split
      all_goals (simp only [Bool.true_eq_false, false_iff, true_iff, Nat.reduceAdd] at *; omega)
    · simp only [wk]
      repeat' split
      all_goals (simp only [Bool.true_eq_false, false_iff, true_iff, Nat.reduceAdd] at *; omega)
  have := tl_le x
  rw [key _ _ _ this.1]
  simp [h]
def mores : List Bs := [[128], [143], [144], [159], [160], [191], [128, 128], [143, 128], [144, 128], [159, 128], [160, 128], [191, 128], [128, 128, 128], [143, 128, 128], [144, 128, 128], [191, 128, 128]]
/-- ref.Whole. -/
def rwhole (l : Bs) : Bool :=
  if l = [] then false else if 4 ≤ l.length then true else if 1 < (dec l).2 ∨ at' l 0 < 128 then true
  else mores.all fun m => decide ((dec (l ++ m)).2 ≤ l.length)
theorem at_app (l m : Bs) (k : Nat) : at' (l ++ m) k = if k < l.length then at' l k else at' m (k - l.length) := by
  unfold at'
  by_cases h : k < l.length
  · rw [if_pos h]; simp [List.getD, List.getElem?_append_left h]
  · rw [if_neg h]; simp [List.getD, List.getElem?_append_right (Nat.not_lt.1 h)]
theorem rwhole_eq (l : Bs) : rwhole l = whole l := by
  unfold rwhole
  by_cases h : l = []
  · rw [if_pos h, h]; rfl
  rw [if_neg h]
  have h0 : 0 < l.length := List.length_pos_iff.2 h
  have hwi := whole_iff l
  have hdo := dec_ok h
  have ht := tl_cases (at' l 0)
  have htl := tl_le (at' l 0)
  by_cases h4 : 4 ≤ l.length
  · rw [if_pos h4]
    symm; rw [← Bool.not_eq_false, hwi]
    rintro (e | ⟨e, _⟩)
    · exact h e
    · omega
  rw [if_neg h4]
  by_cases hd : 1 < (dec l).2 ∨ at' l 0 < 128
  · rw [if_pos hd]
    symm; rw [← Bool.not_eq_false, hwi]
    rintro (e | ⟨e, _⟩)
    · exact h e
    · rcases hd with hd | hd
      · by_cases hok : okS l
        · have := hok.2.1; omega
        · rw [hdo.2 hok] at hd; omega
      · rcases ht with ⟨a, b, ht⟩ | ⟨a, ht⟩ | ⟨a, ht⟩ | ⟨a, b, b', ht⟩ | ⟨a, ht⟩ | ⟨a, b, ht⟩ | ⟨a, ht⟩ | ⟨a, ht⟩ <;> rw [ht] at e <;> dsimp only at e <;> omega
  rw [if_neg hd]
  have hnok : ¬ okS l := fun hok => hd (.inl (by rw [hdo.1 hok]; have := hok.1; omega))
  have hdm : ∀ m : Bs, (okS (l ++ m) → (dec (l ++ m)).2 = (tl (at' l 0)).1 + 1) ∧ (¬ okS (l ++ m) → (dec (l ++ m)).2 = 1) := by
    intro m
    have := dec_ok (l := l ++ m) (by simp [h])
    rw [at_app, if_pos h0] at this
    exact this
  have hokm : ∀ m : Bs, okS (l ++ m) ↔ (1 ≤ (tl (at' l 0)).1 ∧ (tl (at' l 0)).1 < l.length + m.length ∧ (tl (at' l 0)).2.1 ≤ at' (l ++ m) 1 ∧ at' (l ++ m) 1 ≤ (tl (at' l 0)).2.2 ∧
      (2 ≤ (tl (at' l 0)).1 → 128 ≤ at' (l ++ m) 2 ∧ at' (l ++ m) 2 ≤ 191) ∧ (3 ≤ (tl (at' l 0)).1 → 128 ≤ at' (l ++ m) 3 ∧ at' (l ++ m) 3 ≤ 191)) := by
    intro m
    unfold okS
    rw [show at' (l ++ m) 0 = at' l 0 by rw [at_app, if_pos h0], List.length_append]
  by_cases hw : whole l = false
  · rw [hw, ← Bool.not_eq_true, List.all_eq_true]
    intro hall
    rcases hwi.1 hw with e | ⟨e1, e2, e3⟩
    · exact h e
    have use : ∀ m ∈ mores, okS (l ++ m) → False := by
      intro m hm hok
      have h1 := of_decide_eq_true (hall m hm)
      rw [(hdm m).1 hok] at h1
      omega
    have hl : l.length = 1 ∨ l.length = 2 ∨ l.length = 3 := by omega
    have app1 : ∀ (m : Bs) (k : Nat), ¬ k < l.length → at' (l ++ m) k = at' m (k - l.length) := fun m k hk => by rw [at_app, if_neg hk]
    have app0 : ∀ (m : Bs) (k : Nat), k < l.length → at' (l ++ m) k = at' l k := fun m k hk => by rw [at_app, if_pos hk]
    have m1 : at' [128] 0 = 128 := rfl
    rcases hl with hl | hl | hl
    · have q1 : ∀ m : Bs, at' (l ++ m) 1 = at' m 0 := fun m => by rw [app1 m 1 (by omega), hl]
      have q2 : ∀ m : Bs, at' (l ++ m) 2 = at' m 1 := fun m => by rw [app1 m 2 (by omega), hl]
      have q3 : ∀ m : Bs, at' (l ++ m) 3 = at' m 2 := fun m => by rw [app1 m 3 (by omega), hl]
      rcases ht with ⟨a, b, ht⟩ | ⟨a, ht⟩ | ⟨a, ht⟩ | ⟨a, b, b', ht⟩ | ⟨a, ht⟩ | ⟨a, b, ht⟩ | ⟨a, ht⟩ | ⟨a, ht⟩
      · exact use [128] (by decide) ((hokm _).2 (by rw [ht, q1, q2, q3, hl]; decide))
      · exact use [160, 128] (by decide) ((hokm _).2 (by rw [ht, q1, q2, q3, hl]; decide))
      · exact use [128, 128] (by decide) ((hokm _).2 (by rw [ht, q1, q2, q3, hl]; decide))
      · exact use [128, 128] (by decide) ((hokm _).2 (by rw [ht, q1, q2, q3, hl]; decide))
      · exact use [144, 128, 128] (by decide) ((hokm _).2 (by rw [ht, q1, q2, q3, hl]; decide))
      · exact use [128, 128, 128] (by decide) ((hokm _).2 (by rw [ht, q1, q2, q3, hl]; decide))
      · exact use [128, 128, 128] (by decide) ((hokm _).2 (by rw [ht, q1, q2, q3, hl]; decide))
      · rw [ht] at e1; dsimp only at e1; omega
    · have q1 : ∀ m : Bs, at' (l ++ m) 1 = at' l 1 := fun m => app0 m 1 (by omega)
      have q2 : ∀ m : Bs, at' (l ++ m) 2 = at' m 0 := fun m => by rw [app1 m 2 (by omega), hl]
      have q3 : ∀ m : Bs, at' (l ++ m) 3 = at' m 1 := fun m => by rw [app1 m 3 (by omega), hl]
      have := e2 (by omega)
      have n2 : (tl (at' l 0)).1 = 2 ∨ (tl (at' l 0)).1 = 3 := by omega
      rcases n2 with n2 | n2
      · refine use [128] (by decide) ((hokm _).2 ?_)
        rw [n2, hl, q1, q2]
        exact ⟨by omega, by decide, this.1, this.2, fun _ => by decide, fun e => by omega⟩
      · refine use [128, 128] (by decide) ((hokm _).2 ?_)
        rw [n2, hl, q1, q2, q3]
        exact ⟨by omega, by decide, this.1, this.2, fun _ => by decide, fun _ => by decide⟩
    · have q1 : ∀ m : Bs, at' (l ++ m) 1 = at' l 1 := fun m => app0 m 1 (by omega)
      have q2 : ∀ m : Bs, at' (l ++ m) 2 = at' l 2 := fun m => app0 m 2 (by omega)
      have q3 : ∀ m : Bs, at' (l ++ m) 3 = at' m 0 := fun m => by rw [app1 m 3 (by omega), hl]
      have t1 := e2 (by omega)
      have t2 := e3 (by omega)
      have n2 : (tl (at' l 0)).1 = 3 := by omega
      refine use [128] (by decide) ((hokm _).2 ?_)
      rw [n2, hl, q1, q2, q3]
      exact ⟨by omega, by decide, t1.1, t1.2, fun _ => t2, fun _ => by decide⟩
  · rw [Bool.not_eq_false] at hw
    rw [hw, List.all_eq_true]
    intro m hm
    refine decide_eq_true ?_
    by_cases hok : okS (l ++ m)
    · exfalso
      have hk := (hokm m).1 hok
      have hnw : whole l = false := by
        rw [hwi]; right
        have app0 : ∀ (k : Nat), k < l.length → at' (l ++ m) k = at' l k := fun k hk => by rw [at_app, if_pos hk]
        refine ⟨?_, ?_, ?_⟩
        · refine Nat.le_of_not_lt fun hlt => hnok ?_
          obtain ⟨k1, k2, k3, k4, k5, k6⟩ := hk
          refine ⟨k1, hlt, ?_, ?_, ?_, ?_⟩
          · rw [← app0 1 (by omega)]; exact k3
          · rw [← app0 1 (by omega)]; exact k4
          · intro e; rw [← app0 2 (by omega)]; exact k5 e
          · intro e; rw [← app0 3 (by omega)]; exact k6 e
        · intro e; rw [← app0 1 (by omega)]; exact ⟨hk.2.2.1, hk.2.2.2.1⟩
        · intro e
          by_cases e2 : 2 ≤ (tl (at' l 0)).1
          · rw [← app0 2 (by omega)]; exact hk.2.2.2.2.1 e2
          · exfalso
            obtain ⟨k1, k2, k3, k4, k5, k6⟩ := hk
            refine hnok ⟨k1, by omega, ?_, ?_, fun e => by omega, fun e => by omega⟩
            · rw [← app0 1 (by omega)]; exact k3
            · rw [← app0 1 (by omega)]; exact k4
      rw [hnw] at hw; cases hw
    · rw [(hdm m).2 hok]; omega
end Go.Proofs.Ytfegchonclhjjaa
