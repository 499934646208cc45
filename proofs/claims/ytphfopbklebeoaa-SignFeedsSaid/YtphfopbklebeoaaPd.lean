import Derived.Test.YtphfopbklebeoaaPs
namespace Go.Proofs.Ytphfopbklebeoaa
open Go.RowKit
theorem drain_app : ∀ (n : Nat) (l : Bs), l.length ≤ n → (∀ t, runes (l ++ t) = (drain l).1 ++ runes ((drain l).2 ++ t)) ∧ whole (drain l).2 = false := by
  intro n
  induction n with
  | zero =>
    intro l h
    have : l = [] := List.eq_nil_of_length_eq_zero (by omega)
    subst this
    exact ⟨fun t => rfl, rfl⟩
  | succ n ih =>
    intro l h
    by_cases hw : whole l = true
    · have hne := whole_ne hw
      have hp := dec_pos l
      have hl := dec_le hne
      have h0 : 0 < l.length := List.length_pos_iff.2 hne
      obtain ⟨a, b⟩ := ih (l.drop (dec l).2) (by simp; omega)
      rw [drain_whole hw]
      refine ⟨fun t => ?_, b⟩
      rw [runes_cons (by simp [hne]), dec_app hw, List.drop_append_of_le_length hl, a t]
      rfl
    · rw [drain_not (Bool.eq_false_iff.2 hw)]
      exact ⟨fun t => rfl, Bool.eq_false_iff.2 hw⟩
theorem drain_runes (l t : Bs) : runes (l ++ t) = (drain l).1 ++ runes ((drain l).2 ++ t) := (drain_app _ l (Nat.le_refl _)).1 t
theorem drain_rest (l : Bs) : whole (drain l).2 = false := (drain_app _ l (Nat.le_refl _)).2
theorem part_le {l : Bs} (h : whole l = false) : l.length ≤ 3 := by
  rcases (whole_iff l).1 h with e | ⟨e, _⟩
  · subst e; simp
  · have := (tl_le (at' l 0)).1; omega
end Go.Proofs.Ytphfopbklebeoaa
