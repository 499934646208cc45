/-
  DERIVED. GIVEN WITH THE SEED: THE CARDS: each row of YtfgjhfmgacopoaaDoorRows.lean that lists a variable, with what it lists TIED to the program's text (the seventh form; the later family's looks); each row that meets fmt, with fmt's text TOLD by the authors' own Lean function (tested against real Go, not proved from fmt's source: count such statements apart). THE CARD IS WHAT COUNTS. Prove the row's statement (the work); the ties are given (YtfgjhfmgacopoaaDoorTie.lean); close each card by the builder's one call (the guide's Derived/Test/ToyasCard.lean, 'card_holds'). Laid BY PROGRAM, IN A SANDBOX (cutbox-door.mjs). By AI agents, Wed Nov 11 2026. No macro, syntax, notation, axiom, sorry.
-/
import Derived.Test.YtfgjhfmgacopoaaDoorRows
import GoSem.ClaimSeven
namespace Go.Proofs.YtfgjhfmgacopoaaDoor
namespace Rows

/-- THE TIED CARD OF 'souffleurlaw18.LayoutCells'. -/
def layoutCellsCard : Claim7 := { stood := { row := layoutCellsRow, standIns := [], harness := (true, "4b132a74befe4de976d8d6bc01678253dab7026362b86db8347d75cb821bdc66"), looks := false }, kinds := [], alts := [], laidByText := true, laidKinds := [.data, .pinned], laidTests := true, laidLooks := .later }
def LayoutCellsCardSaid : Prop := Claim7.holds Tryd.pinned (.plain (OpenSpec.ofChange layoutCellsSpec)) layoutCellsCard

/-- THE TIED CARD OF 'souffleurlaw18.LayoutGhost'. -/
def layoutGhostCard : Claim7 := { stood := { row := layoutGhostRow, standIns := [], harness := (true, "4b132a74befe4de976d8d6bc01678253dab7026362b86db8347d75cb821bdc66"), looks := false }, kinds := [], alts := [], laidByText := true, laidKinds := [.data, .pinned], laidTests := true, laidLooks := .later }
def LayoutGhostCardSaid : Prop := Claim7.holds Tryd.pinned (.plain (OpenSpec.ofChange layoutGhostSpec)) layoutGhostCard

/-- THE TIED CARD OF 'souffleurlaw18.LayoutDots'. -/
def layoutDotsCard : Claim7 := { stood := { row := layoutDotsRow, standIns := [], harness := (true, "4b132a74befe4de976d8d6bc01678253dab7026362b86db8347d75cb821bdc66"), looks := false }, kinds := [], alts := [], laidByText := true, laidKinds := [.data, .pinned], laidTests := true, laidLooks := .later }
def LayoutDotsCardSaid : Prop := Claim7.holds Tryd.pinned (.plain (OpenSpec.ofChange layoutDotsSpec)) layoutDotsCard

/-- THE TIED CARD OF 'souffleurlaw18.LayoutText'. -/
def layoutTextCard : Claim7 := { stood := { row := layoutTextRow, standIns := [], harness := (true, "4b132a74befe4de976d8d6bc01678253dab7026362b86db8347d75cb821bdc66"), looks := false }, kinds := [], alts := [], laidByText := true, laidKinds := [.data, .pinned], laidTests := true, laidLooks := .later }
def LayoutTextCardSaid : Prop := Claim7.holds Tryd.pinned (.plain (OpenSpec.ofChange layoutTextSpec)) layoutTextCard

/-- THE TIED CARD OF 'souffleurlaw18.LayoutSame'. -/
def layoutSameCard : Claim7 := { stood := { row := layoutSameRow, standIns := [], harness := (true, "4b132a74befe4de976d8d6bc01678253dab7026362b86db8347d75cb821bdc66"), looks := false }, kinds := [], alts := [], laidByText := true, laidKinds := [.data, .pinned], laidTests := true, laidLooks := .later }
def LayoutSameCardSaid : Prop := Claim7.holds Tryd.pinned (.plain (OpenSpec.ofChange layoutSameSpec)) layoutSameCard

/-- THE TIED CARD OF 'souffleurlaw18.LayoutTop'. -/
def layoutTopCard : Claim7 := { stood := { row := layoutTopRow, standIns := [], harness := (true, "4b132a74befe4de976d8d6bc01678253dab7026362b86db8347d75cb821bdc66"), looks := false }, kinds := [], alts := [], laidByText := true, laidKinds := [.data, .pinned], laidTests := true, laidLooks := .later }
def LayoutTopCardSaid : Prop := Claim7.holds Tryd.pinned (.plain (OpenSpec.ofChange layoutTopSpec)) layoutTopCard

/-- THE SECOND FORM's CARD OF 'souffleurlaw18.LayoutCells'. -/
def layoutCellsUptoCard : Claim7 := { stood := { row := layoutCellsUptoRow, standIns := [], harness := (true, "4b132a74befe4de976d8d6bc01678253dab7026362b86db8347d75cb821bdc66"), looks := false }, kinds := [], alts := [], laidByText := true, laidKinds := [.data, .pinned], laidTests := true, laidLooks := .later }
def LayoutCellsUptoCardSaid : Prop := Claim7.holds Tryd.pinned (.plain (OpenSpec.upto layoutCellsSpec)) layoutCellsUptoCard

/-- THE SECOND FORM's CARD OF 'souffleurlaw18.LayoutGhost'. -/
def layoutGhostUptoCard : Claim7 := { stood := { row := layoutGhostUptoRow, standIns := [], harness := (true, "4b132a74befe4de976d8d6bc01678253dab7026362b86db8347d75cb821bdc66"), looks := false }, kinds := [], alts := [], laidByText := true, laidKinds := [.data, .pinned], laidTests := true, laidLooks := .later }
def LayoutGhostUptoCardSaid : Prop := Claim7.holds Tryd.pinned (.plain (OpenSpec.upto layoutGhostSpec)) layoutGhostUptoCard

/-- THE SECOND FORM's CARD OF 'souffleurlaw18.LayoutDots'. -/
def layoutDotsUptoCard : Claim7 := { stood := { row := layoutDotsUptoRow, standIns := [], harness := (true, "4b132a74befe4de976d8d6bc01678253dab7026362b86db8347d75cb821bdc66"), looks := false }, kinds := [], alts := [], laidByText := true, laidKinds := [.data, .pinned], laidTests := true, laidLooks := .later }
def LayoutDotsUptoCardSaid : Prop := Claim7.holds Tryd.pinned (.plain (OpenSpec.upto layoutDotsSpec)) layoutDotsUptoCard

/-- THE SECOND FORM's CARD OF 'souffleurlaw18.LayoutText'. -/
def layoutTextUptoCard : Claim7 := { stood := { row := layoutTextUptoRow, standIns := [], harness := (true, "4b132a74befe4de976d8d6bc01678253dab7026362b86db8347d75cb821bdc66"), looks := false }, kinds := [], alts := [], laidByText := true, laidKinds := [.data, .pinned], laidTests := true, laidLooks := .later }
def LayoutTextUptoCardSaid : Prop := Claim7.holds Tryd.pinned (.plain (OpenSpec.upto layoutTextSpec)) layoutTextUptoCard

/-- THE SECOND FORM's CARD OF 'souffleurlaw18.LayoutSame'. -/
def layoutSameUptoCard : Claim7 := { stood := { row := layoutSameUptoRow, standIns := [], harness := (true, "4b132a74befe4de976d8d6bc01678253dab7026362b86db8347d75cb821bdc66"), looks := false }, kinds := [], alts := [], laidByText := true, laidKinds := [.data, .pinned], laidTests := true, laidLooks := .later }
def LayoutSameUptoCardSaid : Prop := Claim7.holds Tryd.pinned (.plain (OpenSpec.upto layoutSameSpec)) layoutSameUptoCard

/-- THE SECOND FORM's CARD OF 'souffleurlaw18.LayoutTop'. -/
def layoutTopUptoCard : Claim7 := { stood := { row := layoutTopUptoRow, standIns := [], harness := (true, "4b132a74befe4de976d8d6bc01678253dab7026362b86db8347d75cb821bdc66"), looks := false }, kinds := [], alts := [], laidByText := true, laidKinds := [.data, .pinned], laidTests := true, laidLooks := .later }
def LayoutTopUptoCardSaid : Prop := Claim7.holds Tryd.pinned (.plain (OpenSpec.upto layoutTopSpec)) layoutTopUptoCard
end Rows
end Go.Proofs.YtfgjhfmgacopoaaDoor
