import Derived.Test.YtpemjhghiccngaaDoorTt8
namespace Go.Proofs.YtpemjhghiccngaaDoor
set_option linter.unusedVariables false
set_option linter.unusedSimpArgs false
open Go.RowKit Go.Shelf
theorem prevN_zero (S : Bs) (h : mkS S = S) : prevN S 0 = 0 := by
  unfold prevN
  rw [h]
  have h0 := back_off S (k := 0) (Nat.zero_le _)
  rw [off_zero] at h0
  rw [show ((0 : Nat) : Int) = 0 from rfl] at h0
  rw [h0]; exact back_neg S (by omega)
theorem prevN_off {S : Bs} (h : mkS S = S) {k : Nat} (hk : k + 1 ≤ (cuts S).length) : prevN S (off (cuts S) (k + 1) : Int) = off (cuts S) k := by
  unfold prevN
  rw [h, back_off S hk, back_prev S hk]
theorem nextN_off {S : Bs} (h : mkS S = S) {k : Nat} (hk : k < (cuts S).length) : nextN S (off (cuts S) k : Int) = off (cuts S) (k + 1) := by
  unfold nextN
  rw [h, back_off S (by omega), back_next S hk]
theorem off_len (S : Bs) : off (cuts S) (cuts S).length = S.length := by rw [off_all _ _ (Nat.le_refl _), cuts_flat]
theorem off_eq_len {S : Bs} {k : Nat} (hk : k ≤ (cuts S).length) (h : off (cuts S) k = S.length) : k = (cuts S).length := by
  rcases Nat.lt_or_ge k (cuts S).length with h2 | h2
  · have := off_lt (cuts_nz S) h2 (Nat.le_refl _)
    rw [off_len] at this; omega
  · omega
theorem off_eq_zero {S : Bs} {k : Nat} (hk : k ≤ (cuts S).length) (h : off (cuts S) k = 0) : k = 0 := by
  rcases Nat.eq_zero_or_pos k with h2 | h2
  · exact h2
  · have := off_lt (cuts_nz S) h2 hk
    omega
/-- Where two clusters change places. -/
def swAt (S : Bs) (A : Nat) : Nat := if A = S.length then prevN S A else A
theorem swAt_is {S : Bs} (h : mkS S = S) {k : Nat} (hk : k ≤ (cuts S).length) : ∃ j, swAt S (off (cuts S) k) = off (cuts S) j ∧ (j = 0 ∨ j < (cuts S).length) ∧ j = (if k = (cuts S).length then k - 1 else k) := by
  unfold swAt
  by_cases he : off (cuts S) k = S.length
  · have hkn := off_eq_len hk he
    rw [if_pos he, if_pos hkn]
    cases k with
    | zero =>
      refine ⟨0, ?_, .inl rfl, rfl⟩
      rw [off_zero]
      exact prevN_zero S h
    | succ k => exact ⟨k, prevN_off h hk, .inr (by omega), by simp⟩
  · have hkn : k ≠ (cuts S).length := fun e => he (by rw [e, off_len])
    rw [if_neg he, if_neg hkn]
    exact ⟨k, rfl, .inr (by omega), rfl⟩
def swS (S : Bs) (F A T : Nat) : Bs := S.take F ++ (S.take T).drop A ++ (S.take A).drop F ++ S.drop T
def swV (l : Bs) (a : Int) : Value :=
  if swAt (mkS l) (back (mkS l) a) = 0 then .tuple #[bufV (mkS l) (back (mkS l) a), .bool false]
  else .tuple #[bufV (swS (mkS l) (prevN (mkS l) (swAt (mkS l) (back (mkS l) a))) (swAt (mkS l) (back (mkS l) a)) (nextN (mkS l) (swAt (mkS l) (back (mkS l) a))))
      (on (swS (mkS l) (prevN (mkS l) (swAt (mkS l) (back (mkS l) a))) (swAt (mkS l) (back (mkS l) a)) (nextN (mkS l) (swAt (mkS l) (back (mkS l) a)))) (nextN (mkS l) (swAt (mkS l) (back (mkS l) a)))), .bool true]
theorem sw_facts (l : Bs) (a : Int) (h0 : swAt (mkS l) (back (mkS l) a) ≠ 0) :
    prevN (mkS l) (swAt (mkS l) (back (mkS l) a)) ≤ swAt (mkS l) (back (mkS l) a) ∧ swAt (mkS l) (back (mkS l) a) ≤ nextN (mkS l) (swAt (mkS l) (back (mkS l) a)) ∧ nextN (mkS l) (swAt (mkS l) (back (mkS l) a)) ≤ (mkS l).length := by
  obtain ⟨k, hk, e⟩ := back_is (mkS l) a
  rw [e] at h0 ⊢
  obtain ⟨j, h1, h2, _⟩ := swAt_is (mkS_mkS l) hk.1
  rw [h1] at h0 ⊢
  have hj : j ≠ 0 := fun e2 => h0 (by rw [e2, off_zero])
  have hjn : j < (cuts (mkS l)).length := by omega
  obtain ⟨i, rfl⟩ : ∃ i, j = i + 1 := ⟨j - 1, by omega⟩
  rw [prevN_off (mkS_mkS l) (by omega), nextN_off (mkS_mkS l) hjn]
  exact ⟨off_mono _ (by omega), off_mono _ (by omega), off_le _ _⟩
theorem swS_len {S : Bs} {F A T : Nat} (h1 : F ≤ A) (h2 : A ≤ T) (h3 : T ≤ S.length) : (swS S F A T).length = S.length := by
  unfold swS
  simp only [List.length_append, List.length_take, List.length_drop]; omega
end Go.Proofs.YtpemjhghiccngaaDoor
