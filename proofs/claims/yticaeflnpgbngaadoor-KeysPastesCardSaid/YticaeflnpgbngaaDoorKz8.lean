import Derived.Test.YticaeflnpgbngaaDoorKz7
namespace Go.Proofs.YticaeflnpgbngaaDoor
set_option linter.unusedVariables false
set_option linter.unusedSimpArgs false
open Go.RowKit Go.Maps
/-! KeysSigns: plain. -/
theorem dec_part {l : Bs} (h : whole l = false) (h0 : l ≠ []) : (dec l).1 = 65533 := by
  rcases (whole_iff l).1 h with e | ⟨h1, _, _⟩
  · exact absurd e h0
  have hl : 0 < l.length := List.length_pos_iff.2 h0
  have ht := tl_cases (at' l 0)
  have c1 : l.length ≤ 1 → ct l 1 = false := fun e => by unfold ct; rw [decide_eq_false (by omega)]; rfl
  have c2 : l.length ≤ 2 → ct l 2 = false := fun e => by unfold ct; rw [decide_eq_false (by omega)]; rfl
  have c3 : l.length ≤ 3 → ct l 3 = false := fun e => by unfold ct; rw [decide_eq_false (by omega)]; rfl
  unfold dec
  dsimp only
  generalize at' l 0 = x at ht h1
  rcases ht with ⟨a1, b1, e⟩ | ⟨a1, e⟩ | ⟨a1, e⟩ | ⟨a1, b1, b2, e⟩ | ⟨a1, e⟩ | ⟨a1, b1, e⟩ | ⟨a1, e⟩ | ⟨a1, e⟩ <;> rw [e] at h1 <;> dsimp only at h1
  · rw [c1 h1, if_neg (by omega)]
    have e2 : (x / 16 == 14) = false := by rw [beq_eq_false_iff_ne]; omega
    have e3 : (x / 8 == 30) = false := by rw [beq_eq_false_iff_ne]; omega
    simp [e2, e3]
  all_goals first
    | (rw [c2 h1, if_neg (by omega)]
       have e2 : (x / 32 == 6) = false := by rw [beq_eq_false_iff_ne]; omega
       have e3 : (x / 8 == 30) = false := by rw [beq_eq_false_iff_ne]; omega
       simp [e2, e3]; done)
    | (rw [c3 h1, if_neg (by omega)]
       have e2 : (x / 32 == 6) = false := by rw [beq_eq_false_iff_ne]; omega
       have e3 : (x / 16 == 14) = false := by rw [beq_eq_false_iff_ne]; omega
       simp [e2, e3]; done)
    | (exfalso; omega)
theorem ct_high {l : Bs} {k : Nat} (h : ct l k = true) : 128 ≤ at' l k := by
  unfold ct at h
  rw [Bool.and_eq_true, beq_iff_eq] at h
  omega
theorem dec_tail {l : Bs} {k : Nat} (h1 : 1 ≤ k) (h2 : k < (dec l).2) : 128 ≤ at' l k := by
  unfold dec at h2
  dsimp only at h2
  split at h2
  · dsimp only at h2; omega
  · split at h2
    · rename_i hc
      rw [Bool.and_eq_true] at hc
      split at h2
      · dsimp only at h2
        obtain rfl : k = 1 := by omega
        exact ct_high hc.2
      · dsimp only at h2; omega
    · split at h2
      · rename_i hc
        rw [Bool.and_eq_true, Bool.and_eq_true] at hc
        split at h2
        · dsimp only at h2
          have : k = 1 ∨ k = 2 := by omega
          rcases this with rfl | rfl
          · exact ct_high hc.1.2
          · exact ct_high hc.2
        · dsimp only at h2; omega
      · split at h2
        · rename_i hc
          rw [Bool.and_eq_true, Bool.and_eq_true, Bool.and_eq_true] at hc
          split at h2
          · dsimp only at h2
            have : k = 1 ∨ k = 2 ∨ k = 3 := by omega
            rcases this with rfl | rfl | rfl
            · exact ct_high hc.1.1.2
            · exact ct_high hc.1.2
            · exact ct_high hc.2
          · dsimp only at h2; omega
        · dsimp only at h2; omega
theorem at_get {l : Bs} {i : Nat} {y : UInt8} (h : l[i]? = some y) : at' l i = y.toNat := by unfold at'; rw [List.getD_eq_getElem?_getD, h]; rfl
theorem low_mem : ∀ (n : Nat) (l : Bs), l.length ≤ n → ∀ y ∈ l, y.toNat < 128 → y.toNat ∈ runes l := by
  intro n
  induction n with
  | zero =>
    intro l h y hy
    rw [List.eq_nil_of_length_eq_zero (l := l) (by omega)] at hy
    cases hy
  | succ n ih =>
    intro l h y hy hlt
    have h0 : l ≠ [] := by intro e; rw [e] at hy; cases hy
    have hp := dec_pos l
    rw [runes_cons h0]
    obtain ⟨i, hi⟩ := List.mem_iff_getElem?.1 hy
    have hat := at_get hi
    by_cases i0 : i = 0
    · subst i0
      have : dec l = (at' l 0, 1) := by unfold dec; dsimp only; rw [if_pos (by omega)]
      rw [this, hat]
      exact List.mem_cons_self ..
    · by_cases i1 : i < (dec l).2
      · have := dec_tail (l := l) (by omega) i1
        omega
      · refine List.mem_cons_of_mem _ (ih _ (by rw [List.length_drop]; omega) y ?_ hlt)
        refine List.mem_iff_getElem?.2 ⟨i - (dec l).2, ?_⟩
        rw [List.getElem?_drop, show (dec l).2 + (i - (dec l).2) = i by omega]
        exact hi
theorem feed_sig : (b : Bs) → {d : Dc} → d.ph = 0 → whole d.f = false → (∀ y ∈ b, sig y) → ∃ ks, (feedD d b).1 = ks.map sgn ∧ runes (d.f ++ b) = ks ++ runes (feedD d b).2.f ∧ (feedD d b).2.ph = 0 ∧ whole (feedD d b).2.f = false
  | [], d, h, hw, hs => ⟨[], rfl, by simp [feedD], h, hw⟩
  | x :: b, d, h, hw, hs => by
      have hx : sig x := hs x (List.mem_cons_self ..)
      have e1 : putD d x = ((drain (d.f ++ [x])).1.map sgn, { d with ag := 0, f := (drain (d.f ++ [x])).2 }) := by
        unfold putD
        rw [if_neg (by omega), if_neg (by omega), if_neg (by omega), if_neg (by omega)]
        unfold firstD
        rw [if_pos hx]
      obtain ⟨ks, f1, f2, f3, f4⟩ := feed_sig b (d := (putD d x).2) (by rw [e1]; exact h) (by rw [e1]; exact drain_rest _) (fun y hy => hs y (List.mem_cons_of_mem _ hy))
      refine ⟨(drain (d.f ++ [x])).1 ++ ks, ?_, ?_, f3, f4⟩
      · rw [feedD, f1, e1, List.map_append]
      · have : d.f ++ x :: b = (d.f ++ [x]) ++ b := by simp
        rw [this, drain_runes, List.append_assoc]
        congr 1
        show _ = ks ++ runes (feedD (putD d x).2 b).2.f
        rw [← f2, e1]
theorem signs_law (l : Bs) (h : ∀ r ∈ runes l, ¬ r < 32 ∧ ¬ (127 ≤ r ∧ r ≤ 159) ∧ r ≠ 65533) : ∃ d, feedD Dc.new l = ((runes l).map (fun r => ⟨1, enc r⟩), d) ∧ waitsD d = false := by
  have hs : ∀ y ∈ l, sig y := fun y hy => by
    unfold sig
    by_cases h1 : 128 ≤ y.toNat
    · exact .inl h1
    · have := h _ (low_mem _ l (Nat.le_refl _) y hy (by omega))
      right; omega
  obtain ⟨ks, f1, f2, f3, f4⟩ := feed_sig l (d := Dc.new) rfl rfl hs
  have hf : (feedD Dc.new l).2.f = [] := by
    cases hn : (feedD Dc.new l).2.f with
    | nil => rfl
    | cons a t =>
      exfalso
      rw [hn] at f2 f4
      have h5 := dec_part f4 (by simp)
      rw [runes_cons (by simp : a :: t ≠ []), h5] at f2
      have h6 : 65533 ∈ runes l := by
        have : runes l = runes (Dc.new.f ++ l) := rfl
        rw [this, f2]; simp
      exact (h _ h6).2.2 rfl
  rw [hf, runes_nil, List.append_nil] at f2
  have hr : runes l = ks := f2
  refine ⟨(feedD Dc.new l).2, ?_, ?_⟩
  · rw [← hr] at f1
    have : (runes l).map sgn = (runes l).map (fun r => (⟨1, enc r⟩ : KeyT)) := List.map_congr_left fun r hr => by
      have := h r hr
      unfold sgn
      rw [if_neg]
      unfold ctl
      rw [decide_eq_false (show ¬ (r : Int) ≤ 31 by omega), Bool.false_or, Bool.and_eq_true, decide_eq_true_eq, decide_eq_true_eq]
      rintro ⟨a, b⟩
      exact this.2.1 ⟨by omega, by omega⟩
    rw [this] at f1
    exact Prod.ext f1 rfl
  · unfold waitsD
    rw [f3, hf]; rfl
/-! '[]rune(s)'. -/
theorem runesFrom_eq (s : ByteArray) : ∀ (bound i : Nat) (acc : Array Value), s.size ≤ i + bound → Conv.runesFrom s bound i acc = acc ++ ((runes (s.data.toList.drop i)).map i32).toArray
  | 0, i, acc, h => by
      have : s.data.toList.drop i = [] := List.drop_eq_nil_of_le (by have : s.data.toList.length = s.size := Array.length_toList
                                                                     omega)
      rw [this, runes_nil]
      simp [Conv.runesFrom]
  | bound + 1, i, acc, h => by
      have hsz : s.data.toList.length = s.size := Array.length_toList
      rw [Conv.runesFrom]
      by_cases hi : i < s.size
      · rw [if_pos hi]
        have hne : s.data.toList.drop i ≠ [] := by
          intro e
          have := congrArg List.length e
          rw [List.length_drop, hsz] at this
          simp at this; omega
        have hp := dec_pos (s.data.toList.drop i)
        rw [decode_dec]
        dsimp only
        rw [runesFrom_eq s bound _ _ (by omega), runes_cons hne, List.drop_drop]
        simp [i32]
      · rw [if_neg hi]
        have : s.data.toList.drop i = [] := List.drop_eq_nil_of_le (by omega)
        rw [this, runes_nil]
        simp
theorem conv_runes (w : World) (l : Bs) (hl : l.length ≤ 1000000) : ∃ cap W, (convert 9 48 (.string ⟨l.toArray⟩)).run Tryd.prog w = .ok (.slice (some ⟨w.heap.size, 0, none⟩) (runes l).length cap) W ∧ Rd W (some ⟨w.heap.size, 0, none⟩) ((runes l).map i32) ∧ Below w.heap.size w W ∧ w.heap.size < W.heap.size := by
  have e : Conv.runesFrom ⟨l.toArray⟩ (⟨l.toArray⟩ : ByteArray).size 0 #[] = ((runes l).map i32).toArray := by
    rw [runesFrom_eq _ _ _ _ (by omega)]
    simp
  have hr := runes_length l
  have hc := run_runes_of_string (P := Tryd.prog) w 9 48 21 ⟨l.toArray⟩ Tryd.underlying9 Tryd.underlying48 Tryd.underlying21 (by rw [e]; simp; omega)
  rw [e] at hc
  have hsz : (((runes l).map i32).toArray).size = (runes l).length := by simp
  rw [hsz] at hc
  refine ⟨_, _, hc, ?_, ((Below.refl _ w).drew).alloc (Nat.le_refl _) _, by rw [World.size_alloc]; exact Nat.lt_succ_self _⟩
  intro k u hk
  refine ⟨_, _, rfl, ?_⟩
  rw [cell_of_row _ w.heap.size _ _ _ (0, 0) (heap_alloc_new w.drew _)]
  have hlt : k < (runes l).length := by simpa using (List.getElem?_eq_some_iff.1 hk).1
  rw [Nat.zero_add, Array.getElem?_append_left (by simpa using hlt)]
  simpa using hk
end Go.Proofs.YticaeflnpgbngaaDoor
