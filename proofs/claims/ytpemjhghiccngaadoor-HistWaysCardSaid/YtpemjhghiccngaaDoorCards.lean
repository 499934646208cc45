/-
  DERIVED. GIVEN WITH THE SEED: THE CARDS: each row of YtpemjhghiccngaaDoorRows.lean that lists a variable, with what it lists TIED to the program's text (the seventh form; the later family's looks); each row that meets fmt, with fmt's text TOLD by the authors' own Lean function (tested against real Go, not proved from fmt's source: count such statements apart). THE CARD IS WHAT COUNTS. Prove the row's statement (the work); the ties are given (YtpemjhghiccngaaDoorTie.lean); close each card by the builder's one call (the guide's Derived/Test/ToyasCard.lean, 'card_holds'). Laid BY PROGRAM, IN A SANDBOX (cutbox-door.mjs). By AI agents, Wed Nov 11 2026. No macro, syntax, notation, axiom, sorry.
-/
import Derived.Test.YtpemjhghiccngaaDoorRows
import GoSem.ClaimSeven
namespace Go.Proofs.YtpemjhghiccngaaDoor
namespace Rows

/-- THE TIED CARD OF 'souffleurlaw15.HistAll'. -/
def histAllCard : Claim7 := { stood := { row := histAllRow, standIns := [], harness := (true, "75a704f9ad6b3a16fe9e16fcdc2347e149d8c0f08e55f6f74d14ae260f462710"), looks := false }, kinds := [], alts := [], laidByText := true, laidKinds := [.data, .pinned], laidTests := true, laidLooks := .later }
def HistAllCardSaid : Prop := Claim7.holds Tryd.pinned (.plain (OpenSpec.ofChange histAllSpec)) histAllCard

/-- THE TIED CARD OF 'souffleurlaw15.HistUses'. -/
def histUsesCard : Claim7 := { stood := { row := histUsesRow, standIns := [], harness := (true, "75a704f9ad6b3a16fe9e16fcdc2347e149d8c0f08e55f6f74d14ae260f462710"), looks := false }, kinds := [], alts := [], laidByText := true, laidKinds := [.data, .pinned], laidTests := true, laidLooks := .later }
def HistUsesCardSaid : Prop := Claim7.holds Tryd.pinned (.plain (OpenSpec.ofChange histUsesSpec)) histUsesCard

/-- THE TIED CARD OF 'souffleurlaw15.HistAgain'. -/
def histAgainCard : Claim7 := { stood := { row := histAgainRow, standIns := [], harness := (true, "75a704f9ad6b3a16fe9e16fcdc2347e149d8c0f08e55f6f74d14ae260f462710"), looks := false }, kinds := [], alts := [], laidByText := true, laidKinds := [.data, .pinned], laidTests := true, laidLooks := .later }
def HistAgainCardSaid : Prop := Claim7.holds Tryd.pinned (.plain (OpenSpec.ofChange histAgainSpec)) histAgainCard

/-- THE TIED CARD OF 'souffleurlaw15.HistTurns'. -/
def histTurnsCard : Claim7 := { stood := { row := histTurnsRow, standIns := [], harness := (true, "75a704f9ad6b3a16fe9e16fcdc2347e149d8c0f08e55f6f74d14ae260f462710"), looks := false }, kinds := [], alts := [], laidByText := true, laidKinds := [.data, .pinned], laidTests := true, laidLooks := .later }
def HistTurnsCardSaid : Prop := Claim7.holds Tryd.pinned (.plain (OpenSpec.ofChange histTurnsSpec)) histTurnsCard

/-- THE TIED CARD OF 'souffleurlaw15.HistCopies'. -/
def histCopiesCard : Claim7 := { stood := { row := histCopiesRow, standIns := [], harness := (true, "75a704f9ad6b3a16fe9e16fcdc2347e149d8c0f08e55f6f74d14ae260f462710"), looks := false }, kinds := [], alts := [], laidByText := true, laidKinds := [.data, .pinned], laidTests := true, laidLooks := .later }
def HistCopiesCardSaid : Prop := Claim7.holds Tryd.pinned (.plain (OpenSpec.ofChange histCopiesSpec)) histCopiesCard

/-- THE TIED CARD OF 'souffleurlaw15.HistLimits'. -/
def histLimitsCard : Claim7 := { stood := { row := histLimitsRow, standIns := [], harness := (true, "75a704f9ad6b3a16fe9e16fcdc2347e149d8c0f08e55f6f74d14ae260f462710"), looks := false }, kinds := [], alts := [], laidByText := true, laidKinds := [.data, .pinned], laidTests := true, laidLooks := .later }
def HistLimitsCardSaid : Prop := Claim7.holds Tryd.pinned (.plain (OpenSpec.ofChange histLimitsSpec)) histLimitsCard

/-- THE TIED CARD OF 'souffleurlaw15.HistWays'. -/
def histWaysCard : Claim7 := { stood := { row := histWaysRow, standIns := [], harness := (true, "75a704f9ad6b3a16fe9e16fcdc2347e149d8c0f08e55f6f74d14ae260f462710"), looks := false }, kinds := [], alts := [], laidByText := true, laidKinds := [.data, .pinned], laidTests := true, laidLooks := .later }
def HistWaysCardSaid : Prop := Claim7.holds Tryd.pinned (.plain (OpenSpec.ofChange histWaysSpec)) histWaysCard

/-- THE SECOND FORM's CARD OF 'souffleurlaw15.HistAll'. -/
def histAllUptoCard : Claim7 := { stood := { row := histAllUptoRow, standIns := [], harness := (true, "75a704f9ad6b3a16fe9e16fcdc2347e149d8c0f08e55f6f74d14ae260f462710"), looks := false }, kinds := [], alts := [], laidByText := true, laidKinds := [.data, .pinned], laidTests := true, laidLooks := .later }
def HistAllUptoCardSaid : Prop := Claim7.holds Tryd.pinned (.plain (OpenSpec.upto histAllSpec)) histAllUptoCard

/-- THE SECOND FORM's CARD OF 'souffleurlaw15.HistUses'. -/
def histUsesUptoCard : Claim7 := { stood := { row := histUsesUptoRow, standIns := [], harness := (true, "75a704f9ad6b3a16fe9e16fcdc2347e149d8c0f08e55f6f74d14ae260f462710"), looks := false }, kinds := [], alts := [], laidByText := true, laidKinds := [.data, .pinned], laidTests := true, laidLooks := .later }
def HistUsesUptoCardSaid : Prop := Claim7.holds Tryd.pinned (.plain (OpenSpec.upto histUsesSpec)) histUsesUptoCard

/-- THE SECOND FORM's CARD OF 'souffleurlaw15.HistAgain'. -/
def histAgainUptoCard : Claim7 := { stood := { row := histAgainUptoRow, standIns := [], harness := (true, "75a704f9ad6b3a16fe9e16fcdc2347e149d8c0f08e55f6f74d14ae260f462710"), looks := false }, kinds := [], alts := [], laidByText := true, laidKinds := [.data, .pinned], laidTests := true, laidLooks := .later }
def HistAgainUptoCardSaid : Prop := Claim7.holds Tryd.pinned (.plain (OpenSpec.upto histAgainSpec)) histAgainUptoCard

/-- THE SECOND FORM's CARD OF 'souffleurlaw15.HistTurns'. -/
def histTurnsUptoCard : Claim7 := { stood := { row := histTurnsUptoRow, standIns := [], harness := (true, "75a704f9ad6b3a16fe9e16fcdc2347e149d8c0f08e55f6f74d14ae260f462710"), looks := false }, kinds := [], alts := [], laidByText := true, laidKinds := [.data, .pinned], laidTests := true, laidLooks := .later }
def HistTurnsUptoCardSaid : Prop := Claim7.holds Tryd.pinned (.plain (OpenSpec.upto histTurnsSpec)) histTurnsUptoCard

/-- THE SECOND FORM's CARD OF 'souffleurlaw15.HistCopies'. -/
def histCopiesUptoCard : Claim7 := { stood := { row := histCopiesUptoRow, standIns := [], harness := (true, "75a704f9ad6b3a16fe9e16fcdc2347e149d8c0f08e55f6f74d14ae260f462710"), looks := false }, kinds := [], alts := [], laidByText := true, laidKinds := [.data, .pinned], laidTests := true, laidLooks := .later }
def HistCopiesUptoCardSaid : Prop := Claim7.holds Tryd.pinned (.plain (OpenSpec.upto histCopiesSpec)) histCopiesUptoCard

/-- THE SECOND FORM's CARD OF 'souffleurlaw15.HistLimits'. -/
def histLimitsUptoCard : Claim7 := { stood := { row := histLimitsUptoRow, standIns := [], harness := (true, "75a704f9ad6b3a16fe9e16fcdc2347e149d8c0f08e55f6f74d14ae260f462710"), looks := false }, kinds := [], alts := [], laidByText := true, laidKinds := [.data, .pinned], laidTests := true, laidLooks := .later }
def HistLimitsUptoCardSaid : Prop := Claim7.holds Tryd.pinned (.plain (OpenSpec.upto histLimitsSpec)) histLimitsUptoCard

/-- THE SECOND FORM's CARD OF 'souffleurlaw15.HistWays'. -/
def histWaysUptoCard : Claim7 := { stood := { row := histWaysUptoRow, standIns := [], harness := (true, "75a704f9ad6b3a16fe9e16fcdc2347e149d8c0f08e55f6f74d14ae260f462710"), looks := false }, kinds := [], alts := [], laidByText := true, laidKinds := [.data, .pinned], laidTests := true, laidLooks := .later }
def HistWaysUptoCardSaid : Prop := Claim7.holds Tryd.pinned (.plain (OpenSpec.upto histWaysSpec)) histWaysUptoCard
end Rows
end Go.Proofs.YtpemjhghiccngaaDoor
