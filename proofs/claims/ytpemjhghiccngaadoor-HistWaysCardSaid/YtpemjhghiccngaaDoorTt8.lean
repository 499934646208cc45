import Derived.Test.YtpemjhghiccngaaDoorTt7
import Derived.StillTailTactics
namespace Go.Proofs.YtpemjhghiccngaaDoor
set_option linter.unusedVariables false
set_option linter.unusedSimpArgs false
open Go.RowKit Go.Shelf
def cutS (S : Bs) (F T : Nat) : Bs := S.take F ++ S.drop T
def cutG (S : Bs) (F T : Nat) : Bs := (S.take T).drop F
def cutAt (A F T : Nat) : Int := if F < A then max (F : Int) ((A : Int) - ((T : Int) - (F : Int))) else (A : Int)
def cutV (l : Bs) (a f t : Int) : Value :=
  if back (mkS l) f < back (mkS l) t then .tuple #[bufV (cutS (mkS l) (back (mkS l) f) (back (mkS l) t)) (back (cutS (mkS l) (back (mkS l) f) (back (mkS l) t)) (cutAt (back (mkS l) a) (back (mkS l) f) (back (mkS l) t))), .string ⟨(cutG (mkS l) (back (mkS l) f) (back (mkS l) t)).toArray⟩]
  else .tuple #[bufV (mkS l) (back (mkS l) a), .string ⟨#[]⟩]
theorem cutV_no {l : Bs} {a f t : Int} (h : ¬ back (mkS l) f < back (mkS l) t) : cutV l a f t = .tuple #[bufV (mkS l) (back (mkS l) a), .string ⟨#[]⟩] := by unfold cutV; rw [if_neg h]
theorem cutS_pl {S : Bs} (h : Pl S) (f t : Int) : Pl (cutS S (back S f) (back S t)) := by
  obtain ⟨k, _, h1⟩ := back_is S f
  obtain ⟨j, _, h2⟩ := back_is S t
  unfold cutS
  rw [h1, h2]
  exact (h.take k).app (h.drop j)
theorem cutS_len {S : Bs} {F T : Nat} (h : F ≤ T) : (cutS S F T).length ≤ S.length := by
  unfold cutS
  rw [List.length_append, List.length_take, List.length_drop]; omega
end Go.Proofs.YtpemjhghiccngaaDoor
