import Derived.Test.YtfgjhfmgacopoaaDoorLq0
namespace Go.Proofs.YtfgjhfmgacopoaaDoor
set_option linter.unusedVariables false
set_option linter.unusedSimpArgs false
open Go.RowKit Go.Shelf
/-- How a view looks, in the words of the walk. -/
theorem LOf_fr (v : ViewT) (hv : v.small) (w : World) (hU : U8 w) {L : List RowT} {row col : Nat} (hL : L = v.of.rows) (hr : row = v.of.row) (hc : col = v.of.col) :
    Calls Tryd.prog 11 #[v.val] w fun e w' => ∃ A cp vals, e = .returned (.agg #[.slice A L.length cp, .int .i64 (row : Int), .int .i64 (col : Int)]) ∧ FrG w' w.heap.size L (.slice A L.length cp) vals ∧ Below w.heap.size w w' := by
  refine (LOf_calls v hv w hU).mono ?_
  rintro e w' ⟨vv, rs, rfl, R, D⟩
  have F := R.frG v.c_range.2
  rw [← hL] at F
  obtain ⟨A, cp, hvv, _⟩ := F.out.rd
  subst hvv
  exact ⟨A, cp, _, by unfold frV; rw [← hr, ← hc], F, D⟩
/-- What a row of such a frame is, where it lies. -/
theorem FrG.at_row {w : World} {B : Nat} {L : List RowT} {A : Option Addr} {n cp : Nat} {vals : List Value} (h : FrG w B L (.slice A n cp) vals) {k : Nat} {l : RowT} (hl : L[k]? = some l) :
    ∃ g o A1 c1, A = some ⟨g, o, none⟩ ∧ w.cell? ⟨g, o + k, none⟩ = some (.slice A1 l.length c1) ∧ g < w.heap.size ∧ Row w B 33 3 (.slice A1 l.length c1) l.length (flatC l) := by
  obtain ⟨vx, hvx⟩ : ∃ x, vals[k]? = some x := ⟨_, List.getElem?_eq_getElem (by rw [h.len]; exact (List.getElem?_eq_some_iff.1 hl).1)⟩
  have RX := h.row k vx l hvx hl
  obtain ⟨A1, c1, hv1, _⟩ := RX.rd
  subst hv1
  obtain ⟨_, _, hv9, _, _, hrd, _⟩ := h.out.rd
  injection hv9 with z1 _ _
  subst z1
  obtain ⟨g, o, ea, hc⟩ := hrd k _ hvx
  subst ea
  exact ⟨g, o, A1, c1, rfl, hc, World.block_lt_of_cell? w _ hc, RX⟩
end Go.Proofs.YtfgjhfmgacopoaaDoor
