/-
  NARROWER THAN 'FOR EVERY INPUT', by the rows' own cells (each row's printed sentence says how): KeysAll: laid · KeysCuts: laid · KeysEnds: laid · KeysSigns: laid · KeysTexts: laid · KeysAfter: laid · KeysLetters: laid · KeysPastes: laid.
  DERIVED. THE GIVEN ROWS OF THIS SEAT. 8 by the template 'for every input the law returns true; each argument reads behind the call as it read before'; 0 by the template 'total and deterministic' (their statements: YticaeflnpgbngaaDoorTotals.lean).
  GIVEN WITH THE SEED: the statements are not yours to turn. If you find one false, say at which input.
  Laid BY PROGRAM, IN A SANDBOX (cutbox-rows.mjs): the forced cells as the released guide's own fill.sh prints them over the translation c448798c3ea77272… (all of the seat's roots in one cut). By AI agents, Wed Nov 11 2026. No macro, syntax, notation, axiom, sorry.
-/
import Derived.Test.YticaeflnpgbngaaDoorChecked
import GoSem.PinnedTables
import GoSem.Claim
import GoSem.ClaimJoined
import GoSem.ClaimMapViews
import Derived.JoinedTies
import Derived.KernelRfl
namespace Go.Proofs.YticaeflnpgbngaaDoor
/- THE CELL 'sum', in the pinned program and in every row, IS THE sha256 OF THE DUMP (.gsa) THAT YticaeflnpgbngaaDoorProg.lean LOADS. Nothing in Lean hashes anything: it is a label: what it is worth is what the hold of that sum in a sandbox is worth. -/
noncomputable def Tryd.pinned : Pinned := { name := "yticaeflnpgbngaadoor", sum := "c448798c3ea77272da34b323a3d7ee029090fe4077a79be83fd59c4847ca401b", checked := Tryd.checked }
namespace Rows
def none {H : Type} : Left H := { results := [], args := [] }

/- WHAT THE LISTED PACKAGE-LEVEL VARIABLES READ AS WHEN THE CALL BEGINS. Each datum BY PROGRAM (the guide's laid-datum.mjs) off the statement by which the dump's own 'gosem.cut.vars' lays the variable. In a bare row this is a premise. The card (YticaeflnpgbngaaDoorCards.lean) ties it to the program's text. -/
def laid_unicode_utf8_acceptRanges {H : Type} : DataW H := .agg [.agg [.lit (.int .u8 128), .lit (.int .u8 191)], .agg [.lit (.int .u8 160), .lit (.int .u8 191)], .agg [.lit (.int .u8 128), .lit (.int .u8 159)], .agg [.lit (.int .u8 144), .lit (.int .u8 191)], .agg [.lit (.int .u8 128), .lit (.int .u8 143)], .agg [.lit (.int .u8 0), .lit (.int .u8 0)], .agg [.lit (.int .u8 0), .lit (.int .u8 0)], .agg [.lit (.int .u8 0), .lit (.int .u8 0)], .agg [.lit (.int .u8 0), .lit (.int .u8 0)], .agg [.lit (.int .u8 0), .lit (.int .u8 0)], .agg [.lit (.int .u8 0), .lit (.int .u8 0)], .agg [.lit (.int .u8 0), .lit (.int .u8 0)], .agg [.lit (.int .u8 0), .lit (.int .u8 0)], .agg [.lit (.int .u8 0), .lit (.int .u8 0)], .agg [.lit (.int .u8 0), .lit (.int .u8 0)], .agg [.lit (.int .u8 0), .lit (.int .u8 0)]]
/-- One of Go's own tables, pinned by name: the form's constant. -/
def laid_unicode_utf8_first : DataW Unit := Go.Pinned.utf8First

/-- 'souffleurlaw04.KeysAll': WHATEVER THE INPUT: true; the input reads as it did. -/
def keysAllSpec : ChangeSpec := { name := "keysAll", fn := fun _ => fun
  | [d] => { results := [.lit (.bool true)], args := [d] }
  | _ => none }
def keysAllRow : OpenClaim := { program := "yticaeflnpgbngaadoor", sum := "c448798c3ea77272da34b323a3d7ee029090fe4077a79be83fd59c4847ca401b", func := "souffleur/souffleurlaw04.KeysAll", spec := "keysAll", inPlace := ["internal/abi.NoEscape", "internal/bytealg.MakeNoZero"], unfollowed := true, recurses := true, named := ["unicode/utf8.first", "unicode/utf8.acceptRanges"], apart := false, laid := [("unicode/utf8.acceptRanges", laid_unicode_utf8_acceptRanges), ("unicode/utf8.first", laid_unicode_utf8_first)] }
def KeysAllSaid : Prop := keysAllRow.holds Tryd.pinned (OpenSpec.ofChange keysAllSpec)

/-- ITS FALSE NEIGHBOUR: 'it returns false'. Refute it at one input. -/
def keysAllWrong : ChangeSpec := { name := "keysAll", fn := fun _ => fun
  | [d] => { results := [.lit (.bool false)], args := [d] }
  | _ => none }
def KeysAllWrongFalsely : Prop := keysAllRow.holds Tryd.pinned (OpenSpec.ofChange keysAllWrong)

/-- 'souffleurlaw04.KeysCuts': WHATEVER THE INPUT: true; the input reads as it did. -/
def keysCutsSpec : ChangeSpec := { name := "keysCuts", fn := fun _ => fun
  | [d1, d2] => { results := [.lit (.bool true)], args := [d1, d2] }
  | _ => none }
def keysCutsRow : OpenClaim := { program := "yticaeflnpgbngaadoor", sum := "c448798c3ea77272da34b323a3d7ee029090fe4077a79be83fd59c4847ca401b", func := "souffleur/souffleurlaw04.KeysCuts", spec := "keysCuts", inPlace := ["internal/abi.NoEscape", "internal/bytealg.MakeNoZero"], unfollowed := true, recurses := true, named := ["unicode/utf8.first", "unicode/utf8.acceptRanges"], apart := false, laid := [("unicode/utf8.acceptRanges", laid_unicode_utf8_acceptRanges), ("unicode/utf8.first", laid_unicode_utf8_first)] }
def KeysCutsSaid : Prop := keysCutsRow.holds Tryd.pinned (OpenSpec.ofChange keysCutsSpec)

/-- ITS FALSE NEIGHBOUR: 'it returns false'. Refute it at one input. -/
def keysCutsWrong : ChangeSpec := { name := "keysCuts", fn := fun _ => fun
  | [d1, d2] => { results := [.lit (.bool false)], args := [d1, d2] }
  | _ => none }
def KeysCutsWrongFalsely : Prop := keysCutsRow.holds Tryd.pinned (OpenSpec.ofChange keysCutsWrong)

/-- 'souffleurlaw04.KeysEnds': WHATEVER THE INPUT: true; the input reads as it did. -/
def keysEndsSpec : ChangeSpec := { name := "keysEnds", fn := fun _ => fun
  | [d] => { results := [.lit (.bool true)], args := [d] }
  | _ => none }
def keysEndsRow : OpenClaim := { program := "yticaeflnpgbngaadoor", sum := "c448798c3ea77272da34b323a3d7ee029090fe4077a79be83fd59c4847ca401b", func := "souffleur/souffleurlaw04.KeysEnds", spec := "keysEnds", inPlace := ["internal/abi.NoEscape", "internal/bytealg.MakeNoZero"], unfollowed := true, recurses := true, named := ["unicode/utf8.first", "unicode/utf8.acceptRanges"], apart := false, laid := [("unicode/utf8.acceptRanges", laid_unicode_utf8_acceptRanges), ("unicode/utf8.first", laid_unicode_utf8_first)] }
def KeysEndsSaid : Prop := keysEndsRow.holds Tryd.pinned (OpenSpec.ofChange keysEndsSpec)

/-- ITS FALSE NEIGHBOUR: 'it returns false'. Refute it at one input. -/
def keysEndsWrong : ChangeSpec := { name := "keysEnds", fn := fun _ => fun
  | [d] => { results := [.lit (.bool false)], args := [d] }
  | _ => none }
def KeysEndsWrongFalsely : Prop := keysEndsRow.holds Tryd.pinned (OpenSpec.ofChange keysEndsWrong)

/-- 'souffleurlaw04.KeysSigns': WHATEVER THE INPUT: true; the input reads as it did. -/
def keysSignsSpec : ChangeSpec := { name := "keysSigns", fn := fun _ => fun
  | [d] => { results := [.lit (.bool true)], args := [d] }
  | _ => none }
def keysSignsRow : OpenClaim := { program := "yticaeflnpgbngaadoor", sum := "c448798c3ea77272da34b323a3d7ee029090fe4077a79be83fd59c4847ca401b", func := "souffleur/souffleurlaw04.KeysSigns", spec := "keysSigns", inPlace := ["internal/abi.NoEscape", "internal/bytealg.MakeNoZero"], unfollowed := true, recurses := true, named := ["unicode/utf8.first", "unicode/utf8.acceptRanges"], apart := false, laid := [("unicode/utf8.acceptRanges", laid_unicode_utf8_acceptRanges), ("unicode/utf8.first", laid_unicode_utf8_first)] }
def KeysSignsSaid : Prop := keysSignsRow.holds Tryd.pinned (OpenSpec.ofChange keysSignsSpec)

/-- ITS FALSE NEIGHBOUR: 'it returns false'. Refute it at one input. -/
def keysSignsWrong : ChangeSpec := { name := "keysSigns", fn := fun _ => fun
  | [d] => { results := [.lit (.bool false)], args := [d] }
  | _ => none }
def KeysSignsWrongFalsely : Prop := keysSignsRow.holds Tryd.pinned (OpenSpec.ofChange keysSignsWrong)

/-- 'souffleurlaw04.KeysTexts': WHATEVER THE INPUT: true; the input reads as it did. -/
def keysTextsSpec : ChangeSpec := { name := "keysTexts", fn := fun _ => fun
  | [d] => { results := [.lit (.bool true)], args := [d] }
  | _ => none }
def keysTextsRow : OpenClaim := { program := "yticaeflnpgbngaadoor", sum := "c448798c3ea77272da34b323a3d7ee029090fe4077a79be83fd59c4847ca401b", func := "souffleur/souffleurlaw04.KeysTexts", spec := "keysTexts", inPlace := ["internal/abi.NoEscape", "internal/bytealg.MakeNoZero"], unfollowed := true, recurses := true, named := ["unicode/utf8.first", "unicode/utf8.acceptRanges"], apart := false, laid := [("unicode/utf8.acceptRanges", laid_unicode_utf8_acceptRanges), ("unicode/utf8.first", laid_unicode_utf8_first)] }
def KeysTextsSaid : Prop := keysTextsRow.holds Tryd.pinned (OpenSpec.ofChange keysTextsSpec)

/-- ITS FALSE NEIGHBOUR: 'it returns false'. Refute it at one input. -/
def keysTextsWrong : ChangeSpec := { name := "keysTexts", fn := fun _ => fun
  | [d] => { results := [.lit (.bool false)], args := [d] }
  | _ => none }
def KeysTextsWrongFalsely : Prop := keysTextsRow.holds Tryd.pinned (OpenSpec.ofChange keysTextsWrong)

/-- 'souffleurlaw04.KeysAfter': WHATEVER THE INPUT: true; the input reads as it did. -/
def keysAfterSpec : ChangeSpec := { name := "keysAfter", fn := fun _ => fun
  | [d] => { results := [.lit (.bool true)], args := [d] }
  | _ => none }
def keysAfterRow : OpenClaim := { program := "yticaeflnpgbngaadoor", sum := "c448798c3ea77272da34b323a3d7ee029090fe4077a79be83fd59c4847ca401b", func := "souffleur/souffleurlaw04.KeysAfter", spec := "keysAfter", inPlace := ["internal/abi.NoEscape", "internal/bytealg.MakeNoZero"], unfollowed := true, recurses := true, named := ["unicode/utf8.first", "unicode/utf8.acceptRanges"], apart := false, laid := [("unicode/utf8.acceptRanges", laid_unicode_utf8_acceptRanges), ("unicode/utf8.first", laid_unicode_utf8_first)] }
def KeysAfterSaid : Prop := keysAfterRow.holds Tryd.pinned (OpenSpec.ofChange keysAfterSpec)

/-- ITS FALSE NEIGHBOUR: 'it returns false'. Refute it at one input. -/
def keysAfterWrong : ChangeSpec := { name := "keysAfter", fn := fun _ => fun
  | [d] => { results := [.lit (.bool false)], args := [d] }
  | _ => none }
def KeysAfterWrongFalsely : Prop := keysAfterRow.holds Tryd.pinned (OpenSpec.ofChange keysAfterWrong)

/-- 'souffleurlaw04.KeysLetters': WHATEVER THE INPUT: true; the input reads as it did. -/
def keysLettersSpec : ChangeSpec := { name := "keysLetters", fn := fun _ => fun
  | [d1, d2] => { results := [.lit (.bool true)], args := [d1, d2] }
  | _ => none }
def keysLettersRow : OpenClaim := { program := "yticaeflnpgbngaadoor", sum := "c448798c3ea77272da34b323a3d7ee029090fe4077a79be83fd59c4847ca401b", func := "souffleur/souffleurlaw04.KeysLetters", spec := "keysLetters", inPlace := ["internal/abi.NoEscape", "internal/bytealg.MakeNoZero"], unfollowed := true, recurses := true, named := ["unicode/utf8.first", "unicode/utf8.acceptRanges"], apart := false, laid := [("unicode/utf8.acceptRanges", laid_unicode_utf8_acceptRanges), ("unicode/utf8.first", laid_unicode_utf8_first)] }
def KeysLettersSaid : Prop := keysLettersRow.holds Tryd.pinned (OpenSpec.ofChange keysLettersSpec)

/-- ITS FALSE NEIGHBOUR: 'it returns false'. Refute it at one input. -/
def keysLettersWrong : ChangeSpec := { name := "keysLetters", fn := fun _ => fun
  | [d1, d2] => { results := [.lit (.bool false)], args := [d1, d2] }
  | _ => none }
def KeysLettersWrongFalsely : Prop := keysLettersRow.holds Tryd.pinned (OpenSpec.ofChange keysLettersWrong)

/-- 'souffleurlaw04.KeysPastes': WHATEVER THE INPUT: true; the input reads as it did. -/
def keysPastesSpec : ChangeSpec := { name := "keysPastes", fn := fun _ => fun
  | [d1, d2] => { results := [.lit (.bool true)], args := [d1, d2] }
  | _ => none }
def keysPastesRow : OpenClaim := { program := "yticaeflnpgbngaadoor", sum := "c448798c3ea77272da34b323a3d7ee029090fe4077a79be83fd59c4847ca401b", func := "souffleur/souffleurlaw04.KeysPastes", spec := "keysPastes", inPlace := ["internal/bytealg.IndexByteString", "internal/bytealg.IndexString", "internal/abi.NoEscape", "internal/bytealg.MakeNoZero"], unfollowed := true, recurses := true, named := ["internal/bytealg.MaxLen", "unicode/utf8.first", "unicode/utf8.acceptRanges"], apart := false, laid := [("unicode/utf8.acceptRanges", laid_unicode_utf8_acceptRanges), ("unicode/utf8.first", laid_unicode_utf8_first)] }
def KeysPastesSaid : Prop := keysPastesRow.holds Tryd.pinned (OpenSpec.ofChange keysPastesSpec)

/-- ITS FALSE NEIGHBOUR: 'it returns false'. Refute it at one input. -/
def keysPastesWrong : ChangeSpec := { name := "keysPastes", fn := fun _ => fun
  | [d1, d2] => { results := [.lit (.bool false)], args := [d1, d2] }
  | _ => none }
def KeysPastesWrongFalsely : Prop := keysPastesRow.holds Tryd.pinned (OpenSpec.ofChange keysPastesWrong)

/- THE SECOND FORM. 'bulk': how many values and letters a reading holds, each counted each time it is reached (what is shared counts as often as it is met; a slice's spare places count too). A statement '..UptoSaid' is the law's where the arguments, and the package variables that the reading takes, are together of bulk at most 1048576: NARROWER than '..Said'. Prove '..Said' where nothing that the law and all that it calls make is longer than what came in: it says more and counts as full. Else prove '..UptoSaid'. A law counts once. -/
mutual
def uptoBulk {H : Type} : DataW H → Nat
  | .lit (.string bytes) => bytes.length + 1
  | .lit _ => 1
  | .nil => 1
  | .ptr d => uptoBulk d + 1
  | .slice elems spare => uptoBulkAll elems + uptoBulkAll spare + 1
  | .agg parts => uptoBulkAll parts + 1
  | .iface _ d => uptoBulk d + 1
  | .map entries => uptoBulkEntries entries + 1
  | .held _ => 1
def uptoBulkAll {H : Type} : List (DataW H) → Nat
  | [] => 0
  | d :: r => uptoBulk d + uptoBulkAll r
def uptoBulkEntries {H : Type} : List (Lit × DataW H) → Nat
  | [] => 0
  | x :: r => uptoBulkEntry x + uptoBulkEntries r
def uptoBulkEntry {H : Type} : Lit × DataW H → Nat
  | (.string bytes, d) => bytes.length + uptoBulk d + 1
  | (_, d) => uptoBulk d + 1
 end
def uptoSmall : (H : Type) → List (DataW H) → Bool := fun _ ds => decide (uptoBulkAll ds ≤ 1048576)
def OpenSpec.upto (s : _root_.Go.ChangeSpec) : _root_.Go.OpenSpec := { _root_.Go.OpenSpec.ofChange s with cond := some uptoSmall }

/-- 'souffleurlaw04.KeysAll', WHERE WHAT IT READS IS OF BULK AT MOST 1048576: true; the input reads as it did. -/
def keysAllUptoRow : OpenClaim := { program := "yticaeflnpgbngaadoor", sum := "c448798c3ea77272da34b323a3d7ee029090fe4077a79be83fd59c4847ca401b", func := "souffleur/souffleurlaw04.KeysAll", spec := "keysAll", inPlace := ["internal/abi.NoEscape", "internal/bytealg.MakeNoZero"], unfollowed := true, recurses := true, named := ["unicode/utf8.first", "unicode/utf8.acceptRanges"], apart := false, laid := [("unicode/utf8.acceptRanges", laid_unicode_utf8_acceptRanges), ("unicode/utf8.first", laid_unicode_utf8_first)], narrowed := true }
def KeysAllUptoSaid : Prop := keysAllUptoRow.holds Tryd.pinned (OpenSpec.upto keysAllSpec)

/-- 'souffleurlaw04.KeysCuts', WHERE WHAT IT READS IS OF BULK AT MOST 1048576: true; the input reads as it did. -/
def keysCutsUptoRow : OpenClaim := { program := "yticaeflnpgbngaadoor", sum := "c448798c3ea77272da34b323a3d7ee029090fe4077a79be83fd59c4847ca401b", func := "souffleur/souffleurlaw04.KeysCuts", spec := "keysCuts", inPlace := ["internal/abi.NoEscape", "internal/bytealg.MakeNoZero"], unfollowed := true, recurses := true, named := ["unicode/utf8.first", "unicode/utf8.acceptRanges"], apart := false, laid := [("unicode/utf8.acceptRanges", laid_unicode_utf8_acceptRanges), ("unicode/utf8.first", laid_unicode_utf8_first)], narrowed := true }
def KeysCutsUptoSaid : Prop := keysCutsUptoRow.holds Tryd.pinned (OpenSpec.upto keysCutsSpec)

/-- 'souffleurlaw04.KeysEnds', WHERE WHAT IT READS IS OF BULK AT MOST 1048576: true; the input reads as it did. -/
def keysEndsUptoRow : OpenClaim := { program := "yticaeflnpgbngaadoor", sum := "c448798c3ea77272da34b323a3d7ee029090fe4077a79be83fd59c4847ca401b", func := "souffleur/souffleurlaw04.KeysEnds", spec := "keysEnds", inPlace := ["internal/abi.NoEscape", "internal/bytealg.MakeNoZero"], unfollowed := true, recurses := true, named := ["unicode/utf8.first", "unicode/utf8.acceptRanges"], apart := false, laid := [("unicode/utf8.acceptRanges", laid_unicode_utf8_acceptRanges), ("unicode/utf8.first", laid_unicode_utf8_first)], narrowed := true }
def KeysEndsUptoSaid : Prop := keysEndsUptoRow.holds Tryd.pinned (OpenSpec.upto keysEndsSpec)

/-- 'souffleurlaw04.KeysSigns', WHERE WHAT IT READS IS OF BULK AT MOST 1048576: true; the input reads as it did. -/
def keysSignsUptoRow : OpenClaim := { program := "yticaeflnpgbngaadoor", sum := "c448798c3ea77272da34b323a3d7ee029090fe4077a79be83fd59c4847ca401b", func := "souffleur/souffleurlaw04.KeysSigns", spec := "keysSigns", inPlace := ["internal/abi.NoEscape", "internal/bytealg.MakeNoZero"], unfollowed := true, recurses := true, named := ["unicode/utf8.first", "unicode/utf8.acceptRanges"], apart := false, laid := [("unicode/utf8.acceptRanges", laid_unicode_utf8_acceptRanges), ("unicode/utf8.first", laid_unicode_utf8_first)], narrowed := true }
def KeysSignsUptoSaid : Prop := keysSignsUptoRow.holds Tryd.pinned (OpenSpec.upto keysSignsSpec)

/-- 'souffleurlaw04.KeysTexts', WHERE WHAT IT READS IS OF BULK AT MOST 1048576: true; the input reads as it did. -/
def keysTextsUptoRow : OpenClaim := { program := "yticaeflnpgbngaadoor", sum := "c448798c3ea77272da34b323a3d7ee029090fe4077a79be83fd59c4847ca401b", func := "souffleur/souffleurlaw04.KeysTexts", spec := "keysTexts", inPlace := ["internal/abi.NoEscape", "internal/bytealg.MakeNoZero"], unfollowed := true, recurses := true, named := ["unicode/utf8.first", "unicode/utf8.acceptRanges"], apart := false, laid := [("unicode/utf8.acceptRanges", laid_unicode_utf8_acceptRanges), ("unicode/utf8.first", laid_unicode_utf8_first)], narrowed := true }
def KeysTextsUptoSaid : Prop := keysTextsUptoRow.holds Tryd.pinned (OpenSpec.upto keysTextsSpec)

/-- 'souffleurlaw04.KeysAfter', WHERE WHAT IT READS IS OF BULK AT MOST 1048576: true; the input reads as it did. -/
def keysAfterUptoRow : OpenClaim := { program := "yticaeflnpgbngaadoor", sum := "c448798c3ea77272da34b323a3d7ee029090fe4077a79be83fd59c4847ca401b", func := "souffleur/souffleurlaw04.KeysAfter", spec := "keysAfter", inPlace := ["internal/abi.NoEscape", "internal/bytealg.MakeNoZero"], unfollowed := true, recurses := true, named := ["unicode/utf8.first", "unicode/utf8.acceptRanges"], apart := false, laid := [("unicode/utf8.acceptRanges", laid_unicode_utf8_acceptRanges), ("unicode/utf8.first", laid_unicode_utf8_first)], narrowed := true }
def KeysAfterUptoSaid : Prop := keysAfterUptoRow.holds Tryd.pinned (OpenSpec.upto keysAfterSpec)

/-- 'souffleurlaw04.KeysLetters', WHERE WHAT IT READS IS OF BULK AT MOST 1048576: true; the input reads as it did. -/
def keysLettersUptoRow : OpenClaim := { program := "yticaeflnpgbngaadoor", sum := "c448798c3ea77272da34b323a3d7ee029090fe4077a79be83fd59c4847ca401b", func := "souffleur/souffleurlaw04.KeysLetters", spec := "keysLetters", inPlace := ["internal/abi.NoEscape", "internal/bytealg.MakeNoZero"], unfollowed := true, recurses := true, named := ["unicode/utf8.first", "unicode/utf8.acceptRanges"], apart := false, laid := [("unicode/utf8.acceptRanges", laid_unicode_utf8_acceptRanges), ("unicode/utf8.first", laid_unicode_utf8_first)], narrowed := true }
def KeysLettersUptoSaid : Prop := keysLettersUptoRow.holds Tryd.pinned (OpenSpec.upto keysLettersSpec)

/-- 'souffleurlaw04.KeysPastes', WHERE WHAT IT READS IS OF BULK AT MOST 1048576: true; the input reads as it did. -/
def keysPastesUptoRow : OpenClaim := { program := "yticaeflnpgbngaadoor", sum := "c448798c3ea77272da34b323a3d7ee029090fe4077a79be83fd59c4847ca401b", func := "souffleur/souffleurlaw04.KeysPastes", spec := "keysPastes", inPlace := ["internal/bytealg.IndexByteString", "internal/bytealg.IndexString", "internal/abi.NoEscape", "internal/bytealg.MakeNoZero"], unfollowed := true, recurses := true, named := ["internal/bytealg.MaxLen", "unicode/utf8.first", "unicode/utf8.acceptRanges"], apart := false, laid := [("unicode/utf8.acceptRanges", laid_unicode_utf8_acceptRanges), ("unicode/utf8.first", laid_unicode_utf8_first)], narrowed := true }
def KeysPastesUptoSaid : Prop := keysPastesUptoRow.holds Tryd.pinned (OpenSpec.upto keysPastesSpec)

end Rows
end Go.Proofs.YticaeflnpgbngaaDoor
