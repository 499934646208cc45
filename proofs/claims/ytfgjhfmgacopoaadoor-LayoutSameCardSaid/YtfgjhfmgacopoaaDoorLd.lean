import Derived.Test.YtfgjhfmgacopoaaDoorRows
import Derived.Test.YtfgjhfmgacopoaaDoorTt3
import Derived.Lib.LaidU8T
import Derived.Lib.LaidTab
import Derived.Deep.DeepHandedRow
import Derived.Deep.DeepWitnessRowRef
import Derived.ProofKit
import Derived.SizedLaws
namespace Go.Proofs.YtfgjhfmgacopoaaDoor
set_option linter.unusedVariables false
set_option linter.unusedSimpArgs false
open Go.ChangeShapes Go.WideShapes Go.ChangeAt Go.RowKit Go.Lib Go.Shelf
/-! The two tables of unicode/utf8, as a row lists them; a world in which they stand. -/
def ldRen : Go.Shelf.Ren := ⟨fun n => n, fun | 5 => 5 | 119 => 138 | 138 => 140 | 139 => 141 | n => n, fun | 3 => 0 | 4 => 1 | n => n⟩
theorem ldTypes : U8Types Tryd.prog ldRen := ⟨by kernel_rfl, by kernel_rfl, by kernel_rfl, by kernel_rfl⟩
theorem ldExtra : U8Extra Tryd.prog ldRen := ⟨by kernel_rfl, by kernel_rfl, by kernel_rfl, by kernel_rfl, by kernel_rfl, by kernel_rfl, by kernel_rfl⟩
theorem ldFirst : Rows.laid_unicode_utf8_first = firstData := by kernel_rfl
theorem ldAccept : (Rows.laid_unicode_utf8_acceptRanges : DataW Unit) = acceptData := by kernel_rfl
theorem u8_of_laid {l : List (String × DataW Unit)} {W : World} (h : laidMet Tryd.prog l W) (h1 : ("unicode/utf8.first", Rows.laid_unicode_utf8_first) ∈ l) (h2 : ("unicode/utf8.acceptRanges", Rows.laid_unicode_utf8_acceptRanges) ∈ l) : U8 W := by
  rw [ldFirst] at h1
  rw [ldAccept] at h2
  exact utf8Tabs_of_readsT ldTypes ldExtra (Lib.laidMet.reads h h1) (Lib.laidMet.reads h h2)
noncomputable def laidWorld (os : Os) : World :=
  let w0 := World.holding Tryd.prog os ⟨#[], #[], []⟩
  let put (h : Array Obj) (g : Nat) (cs : Array Value) : Array Obj := h.modify g fun
    | .cells _ t frozen => .cells cs t frozen
    | o => o
  let h1 := put w0.heap 0 (Lib.firstTab.map fun z => Value.int .u8 z).toArray
  let h2 := put h1 1 ((List.range 16).flatMap fun i => [Value.int .u8 (Lib.accLo i), Value.int .u8 (Lib.accHi i)]).toArray
  { w0 with heap := h2 }
theorem own : ownKnob Tryd.prog.godebug = none := by kernel_rfl
theorem laidOut : laidOutB Tryd.prog = true := by kernel_rfl
end Go.Proofs.YtfgjhfmgacopoaaDoor
