import Derived.WalkKit
namespace Go.Proofs.Ytkpfendodmfeoaa
open Go.RowKit
/-! Bytes and signs, in plain Lean. -/
abbrev Bs := List UInt8
def at' (l : Bs) (k : Nat) : Nat := (l.getD k 0).toNat
def ct (l : Bs) (k : Nat) : Bool := decide (k < l.length) && at' l k / 64 == 2
/-- The first sign of bytes that are not empty, and how many bytes it takes. -/
def dec (l : Bs) : Nat × Nat :=
  let b0 := at' l 0
  if b0 < 0x80 then (b0, 1)
  else if b0 / 32 == 6 && ct l 1 then
    let c := (b0 % 32) * 64 + at' l 1 % 64
    if c ≥ 0x80 then (c, 2) else (0xFFFD, 1)
  else if b0 / 16 == 14 && ct l 1 && ct l 2 then
    let c := (b0 % 16) * 4096 + (at' l 1 % 64) * 64 + at' l 2 % 64
    if c ≥ 0x800 && Utf8.valid c then (c, 3) else (0xFFFD, 1)
  else if b0 / 8 == 30 && ct l 1 && ct l 2 && ct l 3 then
    let c := (b0 % 8) * 262144 + (at' l 1 % 64) * 4096 + (at' l 2 % 64) * 64 + at' l 3 % 64
    if c ≥ 0x10000 && Utf8.valid c then (c, 4) else (0xFFFD, 1)
  else (0xFFFD, 1)

theorem cons2 {α : Type} {a a' : α} {l l' : List α} (h : a = a') (k : l = l') : a :: l = a' :: l' := by rw [h, k]
theorem get!_list (s : ByteArray) (i : Nat) : s.get! i = s.data.toList.getD i 0 := by
  show s.data[i]! = _
  rcases s with ⟨⟨l⟩⟩
  by_cases h : i < l.length
  · simp [List.getD, h]
  · simp [List.getD, List.getElem?_eq_none (Nat.not_lt.1 h)]
    rfl
theorem decode_dec (s : ByteArray) (i : Nat) : Utf8.decode s i = dec (s.data.toList.drop i) := by
  have hg : ∀ k, (s.get! (i + k)).toNat = at' (s.data.toList.drop i) k := by
    intro k; rw [get!_list]; simp [at', List.getD, List.getElem?_drop]
  have hc : ∀ k, (decide (i + k < s.size) && at' (s.data.toList.drop i) k / 64 == 2) = ct (s.data.toList.drop i) k := by
    intro k; unfold ct
    have : (i + k < s.size) ↔ (k < (s.data.toList.drop i).length) := by
      have e : s.size = s.data.size := rfl
      simp; omega
    simp [this]
  unfold Utf8.decode dec
  simp only [hg, hc]
  rfl

theorem dec_pos (l : Bs) : 1 ≤ (dec l).2 := by
  unfold dec; dsimp only; repeat' split
  all_goals (dsimp only; omega)

theorem at_lt (l : Bs) (k : Nat) : at' l k < 256 := (l.getD k 0).toNat_lt

theorem ct_lt {l : Bs} {k : Nat} (h : ct l k = true) : k < l.length := by
  unfold ct at h; simp at h; exact h.1

theorem dec_le {l : Bs} (h : l ≠ []) : (dec l).2 ≤ l.length := by
  have h0 : 0 < l.length := List.length_pos_iff.2 h
  unfold dec; dsimp only
  repeat' split
  all_goals (dsimp only)
  all_goals first
    | omega
    | (rename_i h1 _; simp only [Bool.and_eq_true] at h1; have := ct_lt h1.2; omega)

theorem dec_le4 (l : Bs) : (dec l).2 ≤ 4 := by
  unfold dec; dsimp only; repeat' split
  all_goals (dsimp only; omega)

theorem dec_val (l : Bs) : Utf8.valid ((dec l).1 : Int) = true := by
  have h0 := at_lt l 0; have h1 := at_lt l 1
  unfold dec; dsimp only
  repeat' split
  all_goals (dsimp only)
  all_goals first
    | (rename_i h; simp only [Bool.and_eq_true] at h; exact h.2)
    | (simp [Utf8.valid]; done)
    | (simp only [Utf8.valid, Bool.or_eq_true, Bool.and_eq_true, decide_eq_true_eq]; omega)

theorem dec_take (l : Bs) {n : Nat} (h : 4 ≤ n) : dec (l.take n) = dec l := by
  have ha : ∀ k, k < 4 → at' (l.take n) k = at' l k := by
    intro k hk; unfold at'; simp [List.getD, show k < n by omega]
  have hc : ∀ k, k < 4 → ct (l.take n) k = ct l k := by
    intro k hk; unfold ct; rw [ha k hk]
    have : (k < (l.take n).length) ↔ (k < l.length) := by rw [List.length_take]; omega
    simp only [this]
  unfold dec
  simp only [ha 0 (by omega), ha 1 (by omega), ha 2 (by omega), ha 3 (by omega), hc 1 (by omega), hc 2 (by omega), hc 3 (by omega)]

/-- All signs. -/
def runesF : Nat → Bs → List Nat
  | 0, _ => []
  | n + 1, l => if l = [] then [] else (dec l).1 :: runesF n (l.drop (dec l).2)
def runes (l : Bs) : List Nat := runesF l.length l

theorem runesF_eq : ∀ (n : Nat) (l : Bs), l.length ≤ n → runesF n l = runes l := by
  intro n
  induction n with
  | zero => intro l h; have : l = [] := List.eq_nil_of_length_eq_zero (by omega); subst this; rfl
  | succ n ih =>
    intro l h
    unfold runes
    cases hl : l.length with
    | zero => have : l = [] := List.eq_nil_of_length_eq_zero hl; subst this; simp [runesF]
    | succ m =>
      have hne : l ≠ [] := by intro e; subst e; simp at hl
      have hp := dec_pos l
      simp only [runesF, hne, if_false]
      rw [ih _ (by simp; omega)]
      have key : ∀ m (l' : Bs), l'.length ≤ m → m ≤ n → runesF m l' = runes l' := by
        intro m l' h1 h2
        have : ∀ (a : Nat) (x : Bs), x.length ≤ a → runesF a x = runesF (a + 1) x := by
          intro a
          induction a with
          | zero => intro x hx; have : x = [] := List.eq_nil_of_length_eq_zero (by omega); subst this; rfl
          | succ a iha =>
            intro x hx
            by_cases hx0 : x = []
            · subst hx0; rfl
            · have := dec_pos x
              rw [show runesF (a + 1) x = (dec x).1 :: runesF a (x.drop (dec x).2) by simp [runesF, hx0], show runesF (a + 1 + 1) x = (dec x).1 :: runesF (a + 1) (x.drop (dec x).2) by simp [runesF, hx0]]
              rw [iha _ (by simp; omega)]
        have mono : ∀ d, runesF l'.length l' = runesF (l'.length + d) l' := by
          intro d
          induction d with
          | zero => rfl
          | succ d ihd => rw [ihd, this (l'.length + d) l' (by omega)]; rfl
        obtain ⟨d, rfl⟩ : ∃ d, m = l'.length + d := ⟨m - l'.length, by omega⟩
        exact (mono d).symm
      rw [key m _ (by simp; omega) (by omega)]

theorem runes_nil : runes [] = [] := rfl
theorem runes_cons {l : Bs} (h : l ≠ []) : runes l = (dec l).1 :: runes (l.drop (dec l).2) := by
  have hl : 0 < l.length := List.length_pos_iff.2 h
  obtain ⟨n, hn⟩ : ∃ n, l.length = n + 1 := ⟨l.length - 1, by omega⟩
  have hp := dec_pos l
  unfold runes
  rw [hn, runesF, if_neg h, runesF_eq n _ (by simp; omega)]
  rfl
theorem runes_length (l : Bs) : (runes l).length ≤ l.length := by
  suffices h : ∀ n (l : Bs), (runesF n l).length ≤ l.length from h _ l
  intro n
  induction n with
  | zero => intro l; simp [runesF]
  | succ n ih =>
    intro l
    unfold runesF
    split
    · simp
    · rename_i h
      have h0 : 0 < l.length := List.length_pos_iff.2 h
      have := dec_pos l
      have := ih (l.drop (dec l).2)
      simp at this ⊢
      omega
/-- The bytes of one sign, as the model has them. -/
def bl (s : ByteArray) : Bs := s.data.toList
def enc (r : Nat) : Bs := bl (Utf8.encode (r : Int))
def clean (l : Bs) : Bs := (runes l).flatMap enc
/-- What may be behind a first byte: how many, and the second one's least, and greatest. -/
def tl (x : Nat) : Nat × Nat × Nat :=
  if 194 ≤ x ∧ x ≤ 223 then (1, 128, 191)
  else if x = 224 then (2, 160, 191)
  else if x = 237 then (2, 128, 159)
  else if 225 ≤ x ∧ x ≤ 239 then (2, 128, 191)
  else if x = 240 then (3, 144, 191)
  else if 241 ≤ x ∧ x ≤ 243 then (3, 128, 191)
  else if x = 244 then (3, 128, 143)
  else (0, 0, 0)
def wk (l : Bs) (n : Nat) : Nat → Nat → Nat → Nat → Bool
  | 0, _, _, _ => true
  | f + 1, k, lo, hi => if k ≤ n then (if l.length ≤ k then false else if at' l k < lo ∨ hi < at' l k then true else wk l n f (k + 1) 128 191) else true
/-- Can nothing behind change the first sign? -/
def whole (l : Bs) : Bool := if l = [] then false else wk l (tl (at' l 0)).1 (tl (at' l 0)).1 1 (tl (at' l 0)).2.1 (tl (at' l 0)).2.2
theorem tl_le (x : Nat) : (tl x).1 ≤ 3 ∧ (tl x).2.1 ≤ 191 ∧ (tl x).2.2 ≤ 191 := by
  unfold tl
  repeat' split
  all_goals (dsimp only; omega)
/-- What is told while what waits is whole, and what waits then. -/
def drainF : Nat → Bs → List Nat × Bs
  | 0, l => ([], l)
  | n + 1, l => if whole l then ((dec l).1 :: (drainF n (l.drop (dec l).2)).1, (drainF n (l.drop (dec l).2)).2) else ([], l)
def drain (l : Bs) : List Nat × Bs := drainF l.length l
theorem whole_nil : whole [] = false := rfl
theorem whole_ne {l : Bs} (h : whole l = true) : l ≠ [] := by intro e; subst e; cases h
theorem drainF_succ : ∀ (n : Nat) (l : Bs), l.length ≤ n → drainF (n + 1) l = drainF n l := by
  intro n
  induction n with
  | zero => intro l h; have : l = [] := List.eq_nil_of_length_eq_zero (by omega); subst this; simp [drainF, whole_nil]
  | succ n ih =>
    intro l h
    by_cases hw : whole l = true
    · have := dec_pos l
      rw [show drainF (n + 1 + 1) l = ((dec l).1 :: (drainF (n + 1) (l.drop (dec l).2)).1, (drainF (n + 1) (l.drop (dec l).2)).2) by rw [drainF, if_pos hw],
        show drainF (n + 1) l = ((dec l).1 :: (drainF n (l.drop (dec l).2)).1, (drainF n (l.drop (dec l).2)).2) by rw [drainF, if_pos hw], ih _ (by simp; omega)]
    · rw [drainF, if_neg hw, drainF, if_neg hw]
theorem drainF_eq (n : Nat) (l : Bs) (h : l.length ≤ n) : drainF n l = drain l := by
  obtain ⟨d, rfl⟩ : ∃ d, n = l.length + d := ⟨n - l.length, by omega⟩
  induction d with
  | zero => rfl
  | succ d ih => rw [← Nat.add_assoc, drainF_succ _ _ (by omega)]; exact ih (by omega)
theorem drain_whole {l : Bs} (h : whole l = true) : drain l = ((dec l).1 :: (drain (l.drop (dec l).2)).1, (drain (l.drop (dec l).2)).2) := by
  have h0 : 0 < l.length := List.length_pos_iff.2 (whole_ne h)
  obtain ⟨n, hn⟩ : ∃ n, l.length = n + 1 := ⟨l.length - 1, by omega⟩
  have := dec_pos l
  have e := drainF_eq n (l.drop (dec l).2) (by simp; omega)
  rw [← e]
  unfold drain
  rw [hn, drainF, if_pos h]
theorem drain_not {l : Bs} (h : whole l = false) : drain l = ([], l) := by
  cases l with
  | nil => rfl
  | cons x t => unfold drain; rw [List.length_cons, drainF]; simp [h]
theorem drain_len (l : Bs) : (drain l).1.length ≤ l.length ∧ (drain l).2.length ≤ l.length := by
  suffices h : ∀ n (l : Bs), (drainF n l).1.length ≤ l.length ∧ (drainF n l).2.length ≤ l.length from h _ l
  intro n
  induction n with
  | zero => intro l; simp [drainF]
  | succ n ih =>
    intro l
    unfold drainF
    split
    · rename_i h
      have h0 : 0 < l.length := List.length_pos_iff.2 (whole_ne h)
      have := dec_pos l
      have := ih (l.drop (dec l).2)
      simp at this ⊢
      omega
    · simp
end Go.Proofs.Ytkpfendodmfeoaa
