/-
  DERIVED. GIVEN WITH THE SEED: THE CARDS: each row of YticaeflnpgbngaaDoorRows.lean that lists a variable, with what it lists TIED to the program's text (the seventh form; the later family's looks); each row that meets fmt, with fmt's text TOLD by the authors' own Lean function (tested against real Go, not proved from fmt's source: count such statements apart). THE CARD IS WHAT COUNTS. Prove the row's statement (the work); the ties are given (YticaeflnpgbngaaDoorTie.lean); close each card by the builder's one call (the guide's Derived/Test/ToyasCard.lean, 'card_holds'). Laid BY PROGRAM, IN A SANDBOX (cutbox-door.mjs). By AI agents, Wed Nov 11 2026. No macro, syntax, notation, axiom, sorry.
-/
import Derived.Test.YticaeflnpgbngaaDoorRows
import GoSem.ClaimSeven
namespace Go.Proofs.YticaeflnpgbngaaDoor
namespace Rows

/-- THE TIED CARD OF 'souffleurlaw04.KeysAll'. -/
def keysAllCard : Claim7 := { stood := { row := keysAllRow, standIns := [], harness := (true, "df8f06f3fca87d9d1b21e957d5282c2cb8fbc4d993d05eab144eb5ef19b95142"), looks := false }, kinds := [], alts := [], laidByText := true, laidKinds := [.data, .pinned], laidTests := true, laidLooks := .later }
def KeysAllCardSaid : Prop := Claim7.holds Tryd.pinned (.plain (OpenSpec.ofChange keysAllSpec)) keysAllCard

/-- THE TIED CARD OF 'souffleurlaw04.KeysCuts'. -/
def keysCutsCard : Claim7 := { stood := { row := keysCutsRow, standIns := [], harness := (true, "df8f06f3fca87d9d1b21e957d5282c2cb8fbc4d993d05eab144eb5ef19b95142"), looks := false }, kinds := [], alts := [], laidByText := true, laidKinds := [.data, .pinned], laidTests := true, laidLooks := .later }
def KeysCutsCardSaid : Prop := Claim7.holds Tryd.pinned (.plain (OpenSpec.ofChange keysCutsSpec)) keysCutsCard

/-- THE TIED CARD OF 'souffleurlaw04.KeysEnds'. -/
def keysEndsCard : Claim7 := { stood := { row := keysEndsRow, standIns := [], harness := (true, "df8f06f3fca87d9d1b21e957d5282c2cb8fbc4d993d05eab144eb5ef19b95142"), looks := false }, kinds := [], alts := [], laidByText := true, laidKinds := [.data, .pinned], laidTests := true, laidLooks := .later }
def KeysEndsCardSaid : Prop := Claim7.holds Tryd.pinned (.plain (OpenSpec.ofChange keysEndsSpec)) keysEndsCard

/-- THE TIED CARD OF 'souffleurlaw04.KeysSigns'. -/
def keysSignsCard : Claim7 := { stood := { row := keysSignsRow, standIns := [], harness := (true, "df8f06f3fca87d9d1b21e957d5282c2cb8fbc4d993d05eab144eb5ef19b95142"), looks := false }, kinds := [], alts := [], laidByText := true, laidKinds := [.data, .pinned], laidTests := true, laidLooks := .later }
def KeysSignsCardSaid : Prop := Claim7.holds Tryd.pinned (.plain (OpenSpec.ofChange keysSignsSpec)) keysSignsCard

/-- THE TIED CARD OF 'souffleurlaw04.KeysTexts'. -/
def keysTextsCard : Claim7 := { stood := { row := keysTextsRow, standIns := [], harness := (true, "df8f06f3fca87d9d1b21e957d5282c2cb8fbc4d993d05eab144eb5ef19b95142"), looks := false }, kinds := [], alts := [], laidByText := true, laidKinds := [.data, .pinned], laidTests := true, laidLooks := .later }
def KeysTextsCardSaid : Prop := Claim7.holds Tryd.pinned (.plain (OpenSpec.ofChange keysTextsSpec)) keysTextsCard

/-- THE TIED CARD OF 'souffleurlaw04.KeysAfter'. -/
def keysAfterCard : Claim7 := { stood := { row := keysAfterRow, standIns := [], harness := (true, "df8f06f3fca87d9d1b21e957d5282c2cb8fbc4d993d05eab144eb5ef19b95142"), looks := false }, kinds := [], alts := [], laidByText := true, laidKinds := [.data, .pinned], laidTests := true, laidLooks := .later }
def KeysAfterCardSaid : Prop := Claim7.holds Tryd.pinned (.plain (OpenSpec.ofChange keysAfterSpec)) keysAfterCard

/-- THE TIED CARD OF 'souffleurlaw04.KeysLetters'. -/
def keysLettersCard : Claim7 := { stood := { row := keysLettersRow, standIns := [], harness := (true, "df8f06f3fca87d9d1b21e957d5282c2cb8fbc4d993d05eab144eb5ef19b95142"), looks := false }, kinds := [], alts := [], laidByText := true, laidKinds := [.data, .pinned], laidTests := true, laidLooks := .later }
def KeysLettersCardSaid : Prop := Claim7.holds Tryd.pinned (.plain (OpenSpec.ofChange keysLettersSpec)) keysLettersCard

/-- THE TIED CARD OF 'souffleurlaw04.KeysPastes'. -/
def keysPastesCard : Claim7 := { stood := { row := keysPastesRow, standIns := [], harness := (true, "df8f06f3fca87d9d1b21e957d5282c2cb8fbc4d993d05eab144eb5ef19b95142"), looks := false }, kinds := [], alts := [], laidByText := true, laidKinds := [.data, .pinned], laidTests := true, laidLooks := .later }
def KeysPastesCardSaid : Prop := Claim7.holds Tryd.pinned (.plain (OpenSpec.ofChange keysPastesSpec)) keysPastesCard

/-- THE SECOND FORM's CARD OF 'souffleurlaw04.KeysAll'. -/
def keysAllUptoCard : Claim7 := { stood := { row := keysAllUptoRow, standIns := [], harness := (true, "df8f06f3fca87d9d1b21e957d5282c2cb8fbc4d993d05eab144eb5ef19b95142"), looks := false }, kinds := [], alts := [], laidByText := true, laidKinds := [.data, .pinned], laidTests := true, laidLooks := .later }
def KeysAllUptoCardSaid : Prop := Claim7.holds Tryd.pinned (.plain (OpenSpec.upto keysAllSpec)) keysAllUptoCard

/-- THE SECOND FORM's CARD OF 'souffleurlaw04.KeysCuts'. -/
def keysCutsUptoCard : Claim7 := { stood := { row := keysCutsUptoRow, standIns := [], harness := (true, "df8f06f3fca87d9d1b21e957d5282c2cb8fbc4d993d05eab144eb5ef19b95142"), looks := false }, kinds := [], alts := [], laidByText := true, laidKinds := [.data, .pinned], laidTests := true, laidLooks := .later }
def KeysCutsUptoCardSaid : Prop := Claim7.holds Tryd.pinned (.plain (OpenSpec.upto keysCutsSpec)) keysCutsUptoCard

/-- THE SECOND FORM's CARD OF 'souffleurlaw04.KeysEnds'. -/
def keysEndsUptoCard : Claim7 := { stood := { row := keysEndsUptoRow, standIns := [], harness := (true, "df8f06f3fca87d9d1b21e957d5282c2cb8fbc4d993d05eab144eb5ef19b95142"), looks := false }, kinds := [], alts := [], laidByText := true, laidKinds := [.data, .pinned], laidTests := true, laidLooks := .later }
def KeysEndsUptoCardSaid : Prop := Claim7.holds Tryd.pinned (.plain (OpenSpec.upto keysEndsSpec)) keysEndsUptoCard

/-- THE SECOND FORM's CARD OF 'souffleurlaw04.KeysSigns'. -/
def keysSignsUptoCard : Claim7 := { stood := { row := keysSignsUptoRow, standIns := [], harness := (true, "df8f06f3fca87d9d1b21e957d5282c2cb8fbc4d993d05eab144eb5ef19b95142"), looks := false }, kinds := [], alts := [], laidByText := true, laidKinds := [.data, .pinned], laidTests := true, laidLooks := .later }
def KeysSignsUptoCardSaid : Prop := Claim7.holds Tryd.pinned (.plain (OpenSpec.upto keysSignsSpec)) keysSignsUptoCard

/-- THE SECOND FORM's CARD OF 'souffleurlaw04.KeysTexts'. -/
def keysTextsUptoCard : Claim7 := { stood := { row := keysTextsUptoRow, standIns := [], harness := (true, "df8f06f3fca87d9d1b21e957d5282c2cb8fbc4d993d05eab144eb5ef19b95142"), looks := false }, kinds := [], alts := [], laidByText := true, laidKinds := [.data, .pinned], laidTests := true, laidLooks := .later }
def KeysTextsUptoCardSaid : Prop := Claim7.holds Tryd.pinned (.plain (OpenSpec.upto keysTextsSpec)) keysTextsUptoCard

/-- THE SECOND FORM's CARD OF 'souffleurlaw04.KeysAfter'. -/
def keysAfterUptoCard : Claim7 := { stood := { row := keysAfterUptoRow, standIns := [], harness := (true, "df8f06f3fca87d9d1b21e957d5282c2cb8fbc4d993d05eab144eb5ef19b95142"), looks := false }, kinds := [], alts := [], laidByText := true, laidKinds := [.data, .pinned], laidTests := true, laidLooks := .later }
def KeysAfterUptoCardSaid : Prop := Claim7.holds Tryd.pinned (.plain (OpenSpec.upto keysAfterSpec)) keysAfterUptoCard

/-- THE SECOND FORM's CARD OF 'souffleurlaw04.KeysLetters'. -/
def keysLettersUptoCard : Claim7 := { stood := { row := keysLettersUptoRow, standIns := [], harness := (true, "df8f06f3fca87d9d1b21e957d5282c2cb8fbc4d993d05eab144eb5ef19b95142"), looks := false }, kinds := [], alts := [], laidByText := true, laidKinds := [.data, .pinned], laidTests := true, laidLooks := .later }
def KeysLettersUptoCardSaid : Prop := Claim7.holds Tryd.pinned (.plain (OpenSpec.upto keysLettersSpec)) keysLettersUptoCard

/-- THE SECOND FORM's CARD OF 'souffleurlaw04.KeysPastes'. -/
def keysPastesUptoCard : Claim7 := { stood := { row := keysPastesUptoRow, standIns := [], harness := (true, "df8f06f3fca87d9d1b21e957d5282c2cb8fbc4d993d05eab144eb5ef19b95142"), looks := false }, kinds := [], alts := [], laidByText := true, laidKinds := [.data, .pinned], laidTests := true, laidLooks := .later }
def KeysPastesUptoCardSaid : Prop := Claim7.holds Tryd.pinned (.plain (OpenSpec.upto keysPastesSpec)) keysPastesUptoCard
end Rows
end Go.Proofs.YticaeflnpgbngaaDoor
