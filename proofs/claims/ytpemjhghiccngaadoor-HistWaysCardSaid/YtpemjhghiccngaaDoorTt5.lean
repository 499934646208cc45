import Derived.Test.YtpemjhghiccngaaDoorTt3
import Derived.Deep.RegionHeld3
namespace Go.Proofs.YtpemjhghiccngaaDoor
set_option linter.unusedVariables false
set_option linter.unusedSimpArgs false
open Go.RowKit Go.Shelf
/-- A line, as it is handed on. -/
abbrev bufV (s : Bs) (a : Nat) : Value := .agg #[.string ⟨s.toArray⟩, .int .i64 (a : Int)]
/-- Two cells, both written. -/
theorem buf_set {w : World} {b : Nat} {T : TypeId} {x0 y0 : Value} (h : w.heap[b]? = some (.cells #[x0, y0] T (0, 0))) (x y : Value) :
    ∃ W, (w.setCell ⟨b, 0, none⟩ x).setCell ⟨b, 1, none⟩ y = W ∧ W.heap[b]? = some (.cells #[x, y] T (0, 0)) ∧ W.cell? ⟨b, 0, none⟩ = some x ∧ W.cell? ⟨b, 1, none⟩ = some y ∧ (∀ (B : Nat) (w0 : World), B ≤ b → Below B w0 w → Below B w0 W) := by
  have h1 := heap_setCell_same w b 0 _ _ x h
  have h2 := heap_setCell_same (w.setCell ⟨b, 0, none⟩ x) b 1 _ _ y h1
  refine ⟨_, rfl, h2, ?_, ?_, fun B w0 hB hb => (hb.setCell (p := ⟨b, 0, none⟩) hB x).setCell (p := ⟨b, 1, none⟩) hB y⟩
  · rw [cell_of_row _ _ _ _ _ (0, 0) h2]; rfl
  · rw [cell_of_row _ _ _ _ _ (0, 0) h2]; rfl
end Go.Proofs.YtpemjhghiccngaaDoor
namespace Go.Proofs.YtpemjhghiccngaaDoor
set_option linter.unusedVariables false
set_option linter.unusedSimpArgs false
open Go.RowKit Go.Shelf
def prevN (l : Bs) (a : Int) : Nat := back (mkS l) ((back (mkS l) a : Int) - 1)
def nextN (l : Bs) (a : Int) : Nat := on (mkS l) ((back (mkS l) a : Int) + 1)
/-- A buffer's two cells. -/
theorem buf_cells {W : World} {b : Nat} {T : TypeId} {x y : Value} (h : W.heap[b]? = some (.cells #[x, y] T (0, 0))) : W.cell? ⟨b, 0, none⟩ = some x ∧ W.cell? ⟨b, 1, none⟩ = some y ∧ W.frozen? ⟨b, 0, none⟩ = false ∧ W.frozen? ⟨b, 1, none⟩ = false :=
  ⟨by rw [cell_of_row W _ _ _ _ (0, 0) h]; rfl, by rw [cell_of_row W _ _ _ _ (0, 0) h]; rfl, frozen_of_row W _ 0 _ _ h, frozen_of_row W _ 1 _ _ h⟩
end Go.Proofs.YtpemjhghiccngaaDoor
