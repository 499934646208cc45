import Derived.Test.YtpemjhghiccngaaDoorTt5
namespace Go.Proofs.YtpemjhghiccngaaDoor
set_option linter.unusedVariables false
set_option linter.unusedSimpArgs false
open Go.RowKit Go.Shelf
def insOk (l t : Bs) : Bool := decide ((mkS l).length + (pl t).length ≤ 600)
def insT (l t : Bs) (a : Int) : Bs := insS (mkS l) (pl t) (back (mkS l) a)
def insA (l t : Bs) (a : Int) : Nat := on (insT l t a) ((back (mkS l) a : Int) + ((pl t).length : Int))
theorem add_any {a b : ByteArray} {l m : Bs} (ha : a = ⟨l.toArray⟩) (hb : b = ⟨m.toArray⟩) (h : l.length + m.length ≤ 4611686018427387904) (W : World) : (Op.stringOp .add a b).run Tryd.prog W = .ok (.string ⟨(l ++ m).toArray⟩) W := by
  subst ha; subst hb
  rw [run_string_add_sum (P := Tryd.prog) W _ _ (by rw [str_of, str_of]; omega), ByteArray.mk_append_mk]
def insV (l t : Bs) (a : Int) : Value := if insOk l t = true then .tuple #[bufV (insT l t a) (insA l t a), .int .i64 0] else .tuple #[bufV (mkS l) (back (mkS l) a), .int .i64 30]
theorem insV_yes {l t : Bs} {a : Int} (h : insOk l t = true) : insV l t a = .tuple #[bufV (insT l t a) (insA l t a), .int .i64 0] := by unfold insV; rw [if_pos h]
theorem insV_no {l t : Bs} {a : Int} (h : insOk l t = false) : insV l t a = .tuple #[bufV (mkS l) (back (mkS l) a), .int .i64 30] := by unfold insV; rw [if_neg (by rw [h]; simp)]
end Go.Proofs.YtpemjhghiccngaaDoor
