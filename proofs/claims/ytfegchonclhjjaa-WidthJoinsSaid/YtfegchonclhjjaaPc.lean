import Derived.Test.YtfegchonclhjjaaPs
namespace Go.Proofs.Ytfegchonclhjjaa
open Go.RowKit
theorem dec_one {m : Bs} (hm : (dec m).2 = 1) : dec m = (if at' m 0 < 128 then at' m 0 else 65533, 1) := by
  obtain ⟨c1, c2, c3, c4, c5, c6⟩ := dec_cases m
  by_cases x1 : at' m 0 < 128
  · rw [if_pos x1]; exact c1 x1
  rw [if_neg x1]
  by_cases x2 : at' m 0 < 192
  · exact c5 (by omega) x2
  by_cases x3 : at' m 0 < 224
  · have := c2 (by omega) x3
    split at this
    · omega
    · exact this
  by_cases x4 : at' m 0 < 240
  · have := c3 (by omega) x4
    split at this
    · omega
    · exact this
  by_cases x5 : at' m 0 < 248
  · have := c4 (by omega) x5
    split at this
    · omega
    · exact this
  exact c6 (by omega)
/-- A sign is read from its own bytes. -/
theorem dec_takeGe {l : Bs} (hl : l ≠ []) {m : Nat} (hm : (dec l).2 ≤ m) : dec (l.take m) = dec l := by
  have hp := dec_pos l
  have h0 : 0 < l.length := List.length_pos_iff.2 hl
  have hne : l.take m ≠ [] := List.length_pos_iff.1 (by rw [List.length_take]; omega)
  have ha : at' (l.take m) 0 = at' l 0 := by unfold at'; simp [List.getD, show 0 < m by omega]
  by_cases hw : whole (l.take m) = true
  · have := dec_app (t := l.drop m) hw
    rw [List.take_append_drop] at this
    exact this.symm
  · have hw' := Bool.eq_false_iff.2 hw
    rcases (whole_iff _).1 hw' with e | ⟨e, _⟩
    · exact absurd e hne
    · rw [ha, List.length_take] at e
      have hdle := dec_le hl
      have n1 : ¬ okS l := fun ho => by
        have := (dec_ok hl).1 ho; omega
      have n2 : ¬ okS (l.take m) := fun ho => by
        have := ho.2.1
        rw [ha, List.length_take] at this; omega
      rw [dec_one ((dec_ok hl).2 n1), dec_one ((dec_ok hne).2 n2), ha]
/-- A place where a sign ends. -/
def CutAt (b : Bs) (p : Nat) : Prop := p ≤ b.length ∧ ∃ rs, ∀ m, p ≤ m → runes (b.take m) = rs ++ runes ((b.take m).drop p)
theorem CutAt.zero (b : Bs) : CutAt b 0 := ⟨Nat.zero_le _, [], fun m _ => by simp⟩
theorem CutAt.next {b : Bs} {p : Nat} (h : CutAt b p) (hp : p < b.length) : CutAt b (p + (dec (b.drop p)).2) := by
  obtain ⟨h1, rs, h2⟩ := h
  have hne : b.drop p ≠ [] := List.length_pos_iff.1 (by simp; omega)
  have hl := dec_le hne
  have hd := dec_pos (b.drop p)
  refine ⟨by rw [List.length_drop] at hl; omega, rs ++ [(dec (b.drop p)).1], fun m hm => ?_⟩
  rw [h2 m (by omega), List.drop_take]
  have hne2 : (b.drop p).take (m - p) ≠ [] := List.length_pos_iff.1 (by rw [List.length_take, List.length_drop]; omega)
  rw [runes_cons hne2, dec_takeGe hne (by omega), List.drop_take, List.drop_take, List.drop_drop, show m - p - (dec (b.drop p)).2 = m - (p + (dec (b.drop p)).2) by omega]
  simp
theorem CutAt.runes_eq {b : Bs} {p : Nat} (h : CutAt b p) : runes b = runes (b.take p) ++ runes (b.drop p) := by
  obtain ⟨h1, rs, h2⟩ := h
  have a := h2 b.length h1
  have c := h2 p (Nat.le_refl _)
  rw [List.take_length] at a
  rw [List.drop_of_length_le (by simp; omega), runes_nil, List.append_nil] at c
  rw [a, c]
theorem CutAt.clean_eq {b : Bs} {p : Nat} (h : CutAt b p) : clean b = clean (b.take p) ++ clean (b.drop p) := by
  unfold clean; rw [h.runes_eq, List.flatMap_append]
end Go.Proofs.Ytfegchonclhjjaa
