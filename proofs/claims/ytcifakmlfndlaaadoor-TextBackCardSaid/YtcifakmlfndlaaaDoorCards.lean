/-
  DERIVED. GIVEN WITH THE SEED: THE CARDS: each row of YtcifakmlfndlaaaDoorRows.lean that lists a variable, with what it lists TIED to the program's text (the seventh form; the later family's looks); each row that meets fmt, with fmt's text TOLD by the authors' own Lean function (tested against real Go, not proved from fmt's source: count such statements apart). THE CARD IS WHAT COUNTS. Prove the row's statement (the work); the ties are given (YtcifakmlfndlaaaDoorTie.lean); close each card by the builder's one call (the guide's Derived/Test/ToyasCard.lean, 'card_holds'). Laid BY PROGRAM, IN A SANDBOX (cutbox-door.mjs). By AI agents, Wed Nov 11 2026. No macro, syntax, notation, axiom, sorry.
-/
import Derived.Test.YtcifakmlfndlaaaDoorRows
import GoSem.ClaimSeven
namespace Go.Proofs.YtcifakmlfndlaaaDoor
namespace Rows

/-- THE TIED CARD OF 'souffleurlaw03.TextMakes'. -/
def textMakesCard : Claim7 := { stood := { row := textMakesRow, standIns := [], harness := (true, "c5a14ccd87f64e84036820c5af6aca64ac390fcaf60702b15266b9083069ab94"), looks := false }, kinds := [], alts := [], laidByText := true, laidKinds := [.data, .pinned], laidTests := true, laidLooks := .later }
def TextMakesCardSaid : Prop := Claim7.holds Tryd.pinned (.plain (OpenSpec.ofChange textMakesSpec)) textMakesCard

/-- THE TIED CARD OF 'souffleurlaw03.TextInserts'. -/
def textInsertsCard : Claim7 := { stood := { row := textInsertsRow, standIns := [], harness := (true, "c5a14ccd87f64e84036820c5af6aca64ac390fcaf60702b15266b9083069ab94"), looks := false }, kinds := [], alts := [], laidByText := true, laidKinds := [.data, .pinned], laidTests := true, laidLooks := .later }
def TextInsertsCardSaid : Prop := Claim7.holds Tryd.pinned (.plain (OpenSpec.ofChange textInsertsSpec)) textInsertsCard

/-- THE TIED CARD OF 'souffleurlaw03.TextCuts'. -/
def textCutsCard : Claim7 := { stood := { row := textCutsRow, standIns := [], harness := (true, "c5a14ccd87f64e84036820c5af6aca64ac390fcaf60702b15266b9083069ab94"), looks := false }, kinds := [], alts := [], laidByText := true, laidKinds := [.data, .pinned], laidTests := true, laidLooks := .later }
def TextCutsCardSaid : Prop := Claim7.holds Tryd.pinned (.plain (OpenSpec.ofChange textCutsSpec)) textCutsCard

/-- THE TIED CARD OF 'souffleurlaw03.TextSwaps'. -/
def textSwapsCard : Claim7 := { stood := { row := textSwapsRow, standIns := [], harness := (true, "c5a14ccd87f64e84036820c5af6aca64ac390fcaf60702b15266b9083069ab94"), looks := false }, kinds := [], alts := [], laidByText := true, laidKinds := [.data, .pinned], laidTests := true, laidLooks := .later }
def TextSwapsCardSaid : Prop := Claim7.holds Tryd.pinned (.plain (OpenSpec.ofChange textSwapsSpec)) textSwapsCard

/-- THE TIED CARD OF 'souffleurlaw03.TextBack'. -/
def textBackCard : Claim7 := { stood := { row := textBackRow, standIns := [], harness := (true, "c5a14ccd87f64e84036820c5af6aca64ac390fcaf60702b15266b9083069ab94"), looks := false }, kinds := [], alts := [], laidByText := true, laidKinds := [.data, .pinned], laidTests := true, laidLooks := .later }
def TextBackCardSaid : Prop := Claim7.holds Tryd.pinned (.plain (OpenSpec.ofChange textBackSpec)) textBackCard

/-- THE TIED CARD OF 'souffleurlaw03.TextEnds'. -/
def textEndsCard : Claim7 := { stood := { row := textEndsRow, standIns := [], harness := (true, "c5a14ccd87f64e84036820c5af6aca64ac390fcaf60702b15266b9083069ab94"), looks := false }, kinds := [], alts := [], laidByText := true, laidKinds := [.data, .pinned], laidTests := true, laidLooks := .later }
def TextEndsCardSaid : Prop := Claim7.holds Tryd.pinned (.plain (OpenSpec.ofChange textEndsSpec)) textEndsCard

/-- THE TIED CARD OF 'souffleurlaw03.TextWords'. -/
def textWordsCard : Claim7 := { stood := { row := textWordsRow, standIns := [], harness := (true, "c5a14ccd87f64e84036820c5af6aca64ac390fcaf60702b15266b9083069ab94"), looks := false }, kinds := [], alts := [], laidByText := true, laidKinds := [.data, .pinned], laidTests := true, laidLooks := .later }
def TextWordsCardSaid : Prop := Claim7.holds Tryd.pinned (.plain (OpenSpec.ofChange textWordsSpec)) textWordsCard

/-- THE SECOND FORM's CARD OF 'souffleurlaw03.TextMakes'. -/
def textMakesUptoCard : Claim7 := { stood := { row := textMakesUptoRow, standIns := [], harness := (true, "c5a14ccd87f64e84036820c5af6aca64ac390fcaf60702b15266b9083069ab94"), looks := false }, kinds := [], alts := [], laidByText := true, laidKinds := [.data, .pinned], laidTests := true, laidLooks := .later }
def TextMakesUptoCardSaid : Prop := Claim7.holds Tryd.pinned (.plain (OpenSpec.upto textMakesSpec)) textMakesUptoCard

/-- THE SECOND FORM's CARD OF 'souffleurlaw03.TextInserts'. -/
def textInsertsUptoCard : Claim7 := { stood := { row := textInsertsUptoRow, standIns := [], harness := (true, "c5a14ccd87f64e84036820c5af6aca64ac390fcaf60702b15266b9083069ab94"), looks := false }, kinds := [], alts := [], laidByText := true, laidKinds := [.data, .pinned], laidTests := true, laidLooks := .later }
def TextInsertsUptoCardSaid : Prop := Claim7.holds Tryd.pinned (.plain (OpenSpec.upto textInsertsSpec)) textInsertsUptoCard

/-- THE SECOND FORM's CARD OF 'souffleurlaw03.TextCuts'. -/
def textCutsUptoCard : Claim7 := { stood := { row := textCutsUptoRow, standIns := [], harness := (true, "c5a14ccd87f64e84036820c5af6aca64ac390fcaf60702b15266b9083069ab94"), looks := false }, kinds := [], alts := [], laidByText := true, laidKinds := [.data, .pinned], laidTests := true, laidLooks := .later }
def TextCutsUptoCardSaid : Prop := Claim7.holds Tryd.pinned (.plain (OpenSpec.upto textCutsSpec)) textCutsUptoCard

/-- THE SECOND FORM's CARD OF 'souffleurlaw03.TextSwaps'. -/
def textSwapsUptoCard : Claim7 := { stood := { row := textSwapsUptoRow, standIns := [], harness := (true, "c5a14ccd87f64e84036820c5af6aca64ac390fcaf60702b15266b9083069ab94"), looks := false }, kinds := [], alts := [], laidByText := true, laidKinds := [.data, .pinned], laidTests := true, laidLooks := .later }
def TextSwapsUptoCardSaid : Prop := Claim7.holds Tryd.pinned (.plain (OpenSpec.upto textSwapsSpec)) textSwapsUptoCard

/-- THE SECOND FORM's CARD OF 'souffleurlaw03.TextBack'. -/
def textBackUptoCard : Claim7 := { stood := { row := textBackUptoRow, standIns := [], harness := (true, "c5a14ccd87f64e84036820c5af6aca64ac390fcaf60702b15266b9083069ab94"), looks := false }, kinds := [], alts := [], laidByText := true, laidKinds := [.data, .pinned], laidTests := true, laidLooks := .later }
def TextBackUptoCardSaid : Prop := Claim7.holds Tryd.pinned (.plain (OpenSpec.upto textBackSpec)) textBackUptoCard

/-- THE SECOND FORM's CARD OF 'souffleurlaw03.TextEnds'. -/
def textEndsUptoCard : Claim7 := { stood := { row := textEndsUptoRow, standIns := [], harness := (true, "c5a14ccd87f64e84036820c5af6aca64ac390fcaf60702b15266b9083069ab94"), looks := false }, kinds := [], alts := [], laidByText := true, laidKinds := [.data, .pinned], laidTests := true, laidLooks := .later }
def TextEndsUptoCardSaid : Prop := Claim7.holds Tryd.pinned (.plain (OpenSpec.upto textEndsSpec)) textEndsUptoCard

/-- THE SECOND FORM's CARD OF 'souffleurlaw03.TextWords'. -/
def textWordsUptoCard : Claim7 := { stood := { row := textWordsUptoRow, standIns := [], harness := (true, "c5a14ccd87f64e84036820c5af6aca64ac390fcaf60702b15266b9083069ab94"), looks := false }, kinds := [], alts := [], laidByText := true, laidKinds := [.data, .pinned], laidTests := true, laidLooks := .later }
def TextWordsUptoCardSaid : Prop := Claim7.holds Tryd.pinned (.plain (OpenSpec.upto textWordsSpec)) textWordsUptoCard
end Rows
end Go.Proofs.YtcifakmlfndlaaaDoor
