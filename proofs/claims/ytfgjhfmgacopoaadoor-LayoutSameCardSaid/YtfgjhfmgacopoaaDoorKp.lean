import Derived.Test.YtfgjhfmgacopoaaDoorTt3
import Derived.Test.YtfgjhfmgacopoaaDoorSr3
import Derived.Test.YtfgjhfmgacopoaaDoorWr
namespace Go.Proofs.YtfgjhfmgacopoaaDoor
set_option linter.unusedVariables false
set_option linter.unusedSimpArgs false
open Go.RowKit Go.Shelf
def gP (r : Nat) : Bs := if 0 ≤ fP (r : Int) then enc (fP (r : Int)).toNat else []
theorem pl_flat (l : Bs) : pl l = (runes l).flatMap gP := by
  unfold pl ps
  rw [List.flatMap_assoc]
  refine flatMap_same _ fun r hr => ?_
  unfold gP
  by_cases h : 0 ≤ fP (r : Int)
  · rw [if_pos h, if_pos h]; simp
  · rw [if_neg h, if_neg h]; rfl
theorem gP_len (r : Nat) : (gP r).length ≤ 4 := by
  unfold gP
  split
  · exact enc_len _
  · simp
theorem gP_fl (rs : List Nat) : (rs.flatMap gP).length ≤ 4 * rs.length := by
  induction rs with
  | nil => simp
  | cons r rs ih => rw [List.flatMap_cons, List.length_append, List.length_cons]; have := gP_len r; omega
theorem gP_white {r : Nat} (h : r = 9 ∨ r = 10 ∨ r = 13) : gP r = enc 32 := by
  have e : fP (r : Int) = 32 := by unfold fP; rw [if_pos (by omega)]
  unfold gP
  rw [e]; rfl
theorem gP_ctl {r : Nat} (h : ¬ (r = 9 ∨ r = 10 ∨ r = 13)) (hc : ctl (r : Int) = true) : gP r = [] := by
  have e : fP (r : Int) = -1 := by unfold fP; rw [if_neg (by omega), if_pos hc]
  unfold gP
  rw [e]; rfl
theorem gP_own {r : Nat} (h : ¬ (r = 9 ∨ r = 10 ∨ r = 13)) (hc : ctl (r : Int) = false) : gP r = enc r := by
  have e : fP (r : Int) = r := by unfold fP; rw [if_neg (by omega), if_neg (by rw [hc]; simp)]
  unfold gP
  rw [e, if_pos (by omega)]; rfl
theorem gP_step {rs : List Nat} {k r : Nat} (h : rs[k]? = some r) : (rs.take (k + 1)).flatMap gP = (rs.take k).flatMap gP ++ gP r := by
  rw [List.take_add_one, h, List.flatMap_append]; simp
theorem val32 : Utf8.valid ((32 : Nat) : Int) = true := (valid_iff _).2 (by omega)
theorem rb32 : rb 32 = enc 32 := rb_enc val32
end Go.Proofs.YtfgjhfmgacopoaaDoor
