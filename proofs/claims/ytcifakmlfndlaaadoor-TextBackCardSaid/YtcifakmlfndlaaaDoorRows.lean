/-
  NARROWER THAN 'FOR EVERY INPUT', by the rows' own cells (each row's printed sentence says how): TextMakes: laid · TextInserts: laid · TextCuts: laid · TextSwaps: laid · TextBack: laid · TextEnds: laid · TextWords: laid.
  DERIVED. THE GIVEN ROWS OF THIS SEAT. 7 by the template 'for every input the law returns true; each argument reads behind the call as it read before'; 0 by the template 'total and deterministic' (their statements: YtcifakmlfndlaaaDoorTotals.lean).
  GIVEN WITH THE SEED: the statements are not yours to turn. If you find one false, say at which input.
  Laid BY PROGRAM, IN A SANDBOX (cutbox-rows.mjs): the forced cells as the released guide's own fill.sh prints them over the translation 49c51db10c864afb… (all of the seat's roots in one cut). By AI agents, Wed Nov 11 2026. No macro, syntax, notation, axiom, sorry.
-/
import Derived.Test.YtcifakmlfndlaaaDoorChecked
import GoSem.PinnedTables
import GoSem.Claim
import GoSem.ClaimJoined
import GoSem.ClaimMapViews
import Derived.JoinedTies
import Derived.KernelRfl
namespace Go.Proofs.YtcifakmlfndlaaaDoor
/- THE CELL 'sum', in the pinned program and in every row, IS THE sha256 OF THE DUMP (.gsa) THAT YtcifakmlfndlaaaDoorProg.lean LOADS. Nothing in Lean hashes anything: it is a label: what it is worth is what the hold of that sum in a sandbox is worth. -/
noncomputable def Tryd.pinned : Pinned := { name := "ytcifakmlfndlaaadoor", sum := "49c51db10c864afb7c36286e8deaa991b86b83dd3260a99e6ff8c29eed6e72d9", checked := Tryd.checked }
namespace Rows
def none {H : Type} : Left H := { results := [], args := [] }

/- WHAT THE LISTED PACKAGE-LEVEL VARIABLES READ AS WHEN THE CALL BEGINS. Each datum BY PROGRAM (the guide's laid-datum.mjs) off the statement by which the dump's own 'gosem.cut.vars' lays the variable. In a bare row this is a premise. The card (YtcifakmlfndlaaaDoorCards.lean) ties it to the program's text. -/
def laid_unicode_utf8_acceptRanges {H : Type} : DataW H := .agg [.agg [.lit (.int .u8 128), .lit (.int .u8 191)], .agg [.lit (.int .u8 160), .lit (.int .u8 191)], .agg [.lit (.int .u8 128), .lit (.int .u8 159)], .agg [.lit (.int .u8 144), .lit (.int .u8 191)], .agg [.lit (.int .u8 128), .lit (.int .u8 143)], .agg [.lit (.int .u8 0), .lit (.int .u8 0)], .agg [.lit (.int .u8 0), .lit (.int .u8 0)], .agg [.lit (.int .u8 0), .lit (.int .u8 0)], .agg [.lit (.int .u8 0), .lit (.int .u8 0)], .agg [.lit (.int .u8 0), .lit (.int .u8 0)], .agg [.lit (.int .u8 0), .lit (.int .u8 0)], .agg [.lit (.int .u8 0), .lit (.int .u8 0)], .agg [.lit (.int .u8 0), .lit (.int .u8 0)], .agg [.lit (.int .u8 0), .lit (.int .u8 0)], .agg [.lit (.int .u8 0), .lit (.int .u8 0)], .agg [.lit (.int .u8 0), .lit (.int .u8 0)]]
/-- One of Go's own tables, pinned by name: the form's constant. -/
def laid_unicode_utf8_first : DataW Unit := Go.Pinned.utf8First

/-- 'souffleurlaw03.TextMakes': WHATEVER THE INPUT: true; the input reads as it did. -/
def textMakesSpec : ChangeSpec := { name := "textMakes", fn := fun _ => fun
  | [d1, d2] => { results := [.lit (.bool true)], args := [d1, d2] }
  | _ => none }
def textMakesRow : OpenClaim := { program := "ytcifakmlfndlaaadoor", sum := "49c51db10c864afb7c36286e8deaa991b86b83dd3260a99e6ff8c29eed6e72d9", func := "souffleur/souffleurlaw03.TextMakes", spec := "textMakes", inPlace := ["internal/abi.NoEscape", "internal/bytealg.MakeNoZero"], unfollowed := true, recurses := true, named := ["unicode/utf8.first", "unicode/utf8.acceptRanges"], apart := false, laid := [("unicode/utf8.acceptRanges", laid_unicode_utf8_acceptRanges), ("unicode/utf8.first", laid_unicode_utf8_first)] }
def TextMakesSaid : Prop := textMakesRow.holds Tryd.pinned (OpenSpec.ofChange textMakesSpec)

/-- ITS FALSE NEIGHBOUR: 'it returns false'. Refute it at one input. -/
def textMakesWrong : ChangeSpec := { name := "textMakes", fn := fun _ => fun
  | [d1, d2] => { results := [.lit (.bool false)], args := [d1, d2] }
  | _ => none }
def TextMakesWrongFalsely : Prop := textMakesRow.holds Tryd.pinned (OpenSpec.ofChange textMakesWrong)

/-- 'souffleurlaw03.TextInserts': WHATEVER THE INPUT: true; the input reads as it did. -/
def textInsertsSpec : ChangeSpec := { name := "textInserts", fn := fun _ => fun
  | [d1, d2] => { results := [.lit (.bool true)], args := [d1, d2] }
  | _ => none }
def textInsertsRow : OpenClaim := { program := "ytcifakmlfndlaaadoor", sum := "49c51db10c864afb7c36286e8deaa991b86b83dd3260a99e6ff8c29eed6e72d9", func := "souffleur/souffleurlaw03.TextInserts", spec := "textInserts", inPlace := ["internal/abi.NoEscape", "internal/bytealg.MakeNoZero"], unfollowed := true, recurses := true, named := ["unicode/utf8.first", "unicode/utf8.acceptRanges"], apart := false, laid := [("unicode/utf8.acceptRanges", laid_unicode_utf8_acceptRanges), ("unicode/utf8.first", laid_unicode_utf8_first)] }
def TextInsertsSaid : Prop := textInsertsRow.holds Tryd.pinned (OpenSpec.ofChange textInsertsSpec)

/-- ITS FALSE NEIGHBOUR: 'it returns false'. Refute it at one input. -/
def textInsertsWrong : ChangeSpec := { name := "textInserts", fn := fun _ => fun
  | [d1, d2] => { results := [.lit (.bool false)], args := [d1, d2] }
  | _ => none }
def TextInsertsWrongFalsely : Prop := textInsertsRow.holds Tryd.pinned (OpenSpec.ofChange textInsertsWrong)

/-- 'souffleurlaw03.TextCuts': WHATEVER THE INPUT: true; the input reads as it did. -/
def textCutsSpec : ChangeSpec := { name := "textCuts", fn := fun _ => fun
  | [d1, d2, d3] => { results := [.lit (.bool true)], args := [d1, d2, d3] }
  | _ => none }
def textCutsRow : OpenClaim := { program := "ytcifakmlfndlaaadoor", sum := "49c51db10c864afb7c36286e8deaa991b86b83dd3260a99e6ff8c29eed6e72d9", func := "souffleur/souffleurlaw03.TextCuts", spec := "textCuts", inPlace := ["internal/abi.NoEscape", "internal/bytealg.MakeNoZero"], unfollowed := true, recurses := true, named := ["unicode/utf8.first", "unicode/utf8.acceptRanges"], apart := false, laid := [("unicode/utf8.acceptRanges", laid_unicode_utf8_acceptRanges), ("unicode/utf8.first", laid_unicode_utf8_first)] }
def TextCutsSaid : Prop := textCutsRow.holds Tryd.pinned (OpenSpec.ofChange textCutsSpec)

/-- ITS FALSE NEIGHBOUR: 'it returns false'. Refute it at one input. -/
def textCutsWrong : ChangeSpec := { name := "textCuts", fn := fun _ => fun
  | [d1, d2, d3] => { results := [.lit (.bool false)], args := [d1, d2, d3] }
  | _ => none }
def TextCutsWrongFalsely : Prop := textCutsRow.holds Tryd.pinned (OpenSpec.ofChange textCutsWrong)

/-- 'souffleurlaw03.TextSwaps': WHATEVER THE INPUT: true; the input reads as it did. -/
def textSwapsSpec : ChangeSpec := { name := "textSwaps", fn := fun _ => fun
  | [d] => { results := [.lit (.bool true)], args := [d] }
  | _ => none }
def textSwapsRow : OpenClaim := { program := "ytcifakmlfndlaaadoor", sum := "49c51db10c864afb7c36286e8deaa991b86b83dd3260a99e6ff8c29eed6e72d9", func := "souffleur/souffleurlaw03.TextSwaps", spec := "textSwaps", inPlace := ["internal/abi.NoEscape", "internal/bytealg.MakeNoZero"], unfollowed := true, recurses := true, named := ["unicode/utf8.first", "unicode/utf8.acceptRanges"], apart := false, laid := [("unicode/utf8.acceptRanges", laid_unicode_utf8_acceptRanges), ("unicode/utf8.first", laid_unicode_utf8_first)] }
def TextSwapsSaid : Prop := textSwapsRow.holds Tryd.pinned (OpenSpec.ofChange textSwapsSpec)

/-- ITS FALSE NEIGHBOUR: 'it returns false'. Refute it at one input. -/
def textSwapsWrong : ChangeSpec := { name := "textSwaps", fn := fun _ => fun
  | [d] => { results := [.lit (.bool false)], args := [d] }
  | _ => none }
def TextSwapsWrongFalsely : Prop := textSwapsRow.holds Tryd.pinned (OpenSpec.ofChange textSwapsWrong)

/-- 'souffleurlaw03.TextBack': WHATEVER THE INPUT: true; the input reads as it did. -/
def textBackSpec : ChangeSpec := { name := "textBack", fn := fun _ => fun
  | [d1, d2, d3] => { results := [.lit (.bool true)], args := [d1, d2, d3] }
  | _ => none }
def textBackRow : OpenClaim := { program := "ytcifakmlfndlaaadoor", sum := "49c51db10c864afb7c36286e8deaa991b86b83dd3260a99e6ff8c29eed6e72d9", func := "souffleur/souffleurlaw03.TextBack", spec := "textBack", inPlace := ["internal/abi.NoEscape", "internal/bytealg.MakeNoZero"], unfollowed := true, recurses := true, named := ["unicode/utf8.first", "unicode/utf8.acceptRanges"], apart := false, laid := [("unicode/utf8.acceptRanges", laid_unicode_utf8_acceptRanges), ("unicode/utf8.first", laid_unicode_utf8_first)] }
def TextBackSaid : Prop := textBackRow.holds Tryd.pinned (OpenSpec.ofChange textBackSpec)

/-- ITS FALSE NEIGHBOUR: 'it returns false'. Refute it at one input. -/
def textBackWrong : ChangeSpec := { name := "textBack", fn := fun _ => fun
  | [d1, d2, d3] => { results := [.lit (.bool false)], args := [d1, d2, d3] }
  | _ => none }
def TextBackWrongFalsely : Prop := textBackRow.holds Tryd.pinned (OpenSpec.ofChange textBackWrong)

/-- 'souffleurlaw03.TextEnds': WHATEVER THE INPUT: true; the input reads as it did. -/
def textEndsSpec : ChangeSpec := { name := "textEnds", fn := fun _ => fun
  | [d1, d2] => { results := [.lit (.bool true)], args := [d1, d2] }
  | _ => none }
def textEndsRow : OpenClaim := { program := "ytcifakmlfndlaaadoor", sum := "49c51db10c864afb7c36286e8deaa991b86b83dd3260a99e6ff8c29eed6e72d9", func := "souffleur/souffleurlaw03.TextEnds", spec := "textEnds", inPlace := ["internal/abi.NoEscape", "internal/bytealg.MakeNoZero"], unfollowed := true, recurses := true, named := ["unicode/utf8.first", "unicode/utf8.acceptRanges"], apart := false, laid := [("unicode/utf8.acceptRanges", laid_unicode_utf8_acceptRanges), ("unicode/utf8.first", laid_unicode_utf8_first)] }
def TextEndsSaid : Prop := textEndsRow.holds Tryd.pinned (OpenSpec.ofChange textEndsSpec)

/-- ITS FALSE NEIGHBOUR: 'it returns false'. Refute it at one input. -/
def textEndsWrong : ChangeSpec := { name := "textEnds", fn := fun _ => fun
  | [d1, d2] => { results := [.lit (.bool false)], args := [d1, d2] }
  | _ => none }
def TextEndsWrongFalsely : Prop := textEndsRow.holds Tryd.pinned (OpenSpec.ofChange textEndsWrong)

/-- 'souffleurlaw03.TextWords': WHATEVER THE INPUT: true; the input reads as it did. -/
def textWordsSpec : ChangeSpec := { name := "textWords", fn := fun _ => fun
  | [d] => { results := [.lit (.bool true)], args := [d] }
  | _ => none }
def textWordsRow : OpenClaim := { program := "ytcifakmlfndlaaadoor", sum := "49c51db10c864afb7c36286e8deaa991b86b83dd3260a99e6ff8c29eed6e72d9", func := "souffleur/souffleurlaw03.TextWords", spec := "textWords", inPlace := ["internal/abi.NoEscape", "internal/bytealg.MakeNoZero"], unfollowed := true, recurses := true, named := ["unicode/utf8.first", "unicode/utf8.acceptRanges"], apart := false, laid := [("unicode/utf8.acceptRanges", laid_unicode_utf8_acceptRanges), ("unicode/utf8.first", laid_unicode_utf8_first)] }
def TextWordsSaid : Prop := textWordsRow.holds Tryd.pinned (OpenSpec.ofChange textWordsSpec)

/-- ITS FALSE NEIGHBOUR: 'it returns false'. Refute it at one input. -/
def textWordsWrong : ChangeSpec := { name := "textWords", fn := fun _ => fun
  | [d] => { results := [.lit (.bool false)], args := [d] }
  | _ => none }
def TextWordsWrongFalsely : Prop := textWordsRow.holds Tryd.pinned (OpenSpec.ofChange textWordsWrong)

/- THE SECOND FORM. 'bulk': how many values and letters a reading holds, each counted each time it is reached (what is shared counts as often as it is met; a slice's spare places count too). A statement '..UptoSaid' is the law's where the arguments, and the package variables that the reading takes, are together of bulk at most 1048576: NARROWER than '..Said'. Prove '..Said' where nothing that the law and all that it calls make is longer than what came in: it says more and counts as full. Else prove '..UptoSaid'. A law counts once. -/
mutual
def uptoBulk {H : Type} : DataW H → Nat
  | .lit (.string bytes) => bytes.length + 1
  | .lit _ => 1
  | .nil => 1
  | .ptr d => uptoBulk d + 1
  | .slice elems spare => uptoBulkAll elems + uptoBulkAll spare + 1
  | .agg parts => uptoBulkAll parts + 1
  | .iface _ d => uptoBulk d + 1
  | .map entries => uptoBulkEntries entries + 1
  | .held _ => 1
def uptoBulkAll {H : Type} : List (DataW H) → Nat
  | [] => 0
  | d :: r => uptoBulk d + uptoBulkAll r
def uptoBulkEntries {H : Type} : List (Lit × DataW H) → Nat
  | [] => 0
  | x :: r => uptoBulkEntry x + uptoBulkEntries r
def uptoBulkEntry {H : Type} : Lit × DataW H → Nat
  | (.string bytes, d) => bytes.length + uptoBulk d + 1
  | (_, d) => uptoBulk d + 1
 end
def uptoSmall : (H : Type) → List (DataW H) → Bool := fun _ ds => decide (uptoBulkAll ds ≤ 1048576)
def OpenSpec.upto (s : _root_.Go.ChangeSpec) : _root_.Go.OpenSpec := { _root_.Go.OpenSpec.ofChange s with cond := some uptoSmall }

/-- 'souffleurlaw03.TextMakes', WHERE WHAT IT READS IS OF BULK AT MOST 1048576: true; the input reads as it did. -/
def textMakesUptoRow : OpenClaim := { program := "ytcifakmlfndlaaadoor", sum := "49c51db10c864afb7c36286e8deaa991b86b83dd3260a99e6ff8c29eed6e72d9", func := "souffleur/souffleurlaw03.TextMakes", spec := "textMakes", inPlace := ["internal/abi.NoEscape", "internal/bytealg.MakeNoZero"], unfollowed := true, recurses := true, named := ["unicode/utf8.first", "unicode/utf8.acceptRanges"], apart := false, laid := [("unicode/utf8.acceptRanges", laid_unicode_utf8_acceptRanges), ("unicode/utf8.first", laid_unicode_utf8_first)], narrowed := true }
def TextMakesUptoSaid : Prop := textMakesUptoRow.holds Tryd.pinned (OpenSpec.upto textMakesSpec)

/-- 'souffleurlaw03.TextInserts', WHERE WHAT IT READS IS OF BULK AT MOST 1048576: true; the input reads as it did. -/
def textInsertsUptoRow : OpenClaim := { program := "ytcifakmlfndlaaadoor", sum := "49c51db10c864afb7c36286e8deaa991b86b83dd3260a99e6ff8c29eed6e72d9", func := "souffleur/souffleurlaw03.TextInserts", spec := "textInserts", inPlace := ["internal/abi.NoEscape", "internal/bytealg.MakeNoZero"], unfollowed := true, recurses := true, named := ["unicode/utf8.first", "unicode/utf8.acceptRanges"], apart := false, laid := [("unicode/utf8.acceptRanges", laid_unicode_utf8_acceptRanges), ("unicode/utf8.first", laid_unicode_utf8_first)], narrowed := true }
def TextInsertsUptoSaid : Prop := textInsertsUptoRow.holds Tryd.pinned (OpenSpec.upto textInsertsSpec)

/-- 'souffleurlaw03.TextCuts', WHERE WHAT IT READS IS OF BULK AT MOST 1048576: true; the input reads as it did. -/
def textCutsUptoRow : OpenClaim := { program := "ytcifakmlfndlaaadoor", sum := "49c51db10c864afb7c36286e8deaa991b86b83dd3260a99e6ff8c29eed6e72d9", func := "souffleur/souffleurlaw03.TextCuts", spec := "textCuts", inPlace := ["internal/abi.NoEscape", "internal/bytealg.MakeNoZero"], unfollowed := true, recurses := true, named := ["unicode/utf8.first", "unicode/utf8.acceptRanges"], apart := false, laid := [("unicode/utf8.acceptRanges", laid_unicode_utf8_acceptRanges), ("unicode/utf8.first", laid_unicode_utf8_first)], narrowed := true }
def TextCutsUptoSaid : Prop := textCutsUptoRow.holds Tryd.pinned (OpenSpec.upto textCutsSpec)

/-- 'souffleurlaw03.TextSwaps', WHERE WHAT IT READS IS OF BULK AT MOST 1048576: true; the input reads as it did. -/
def textSwapsUptoRow : OpenClaim := { program := "ytcifakmlfndlaaadoor", sum := "49c51db10c864afb7c36286e8deaa991b86b83dd3260a99e6ff8c29eed6e72d9", func := "souffleur/souffleurlaw03.TextSwaps", spec := "textSwaps", inPlace := ["internal/abi.NoEscape", "internal/bytealg.MakeNoZero"], unfollowed := true, recurses := true, named := ["unicode/utf8.first", "unicode/utf8.acceptRanges"], apart := false, laid := [("unicode/utf8.acceptRanges", laid_unicode_utf8_acceptRanges), ("unicode/utf8.first", laid_unicode_utf8_first)], narrowed := true }
def TextSwapsUptoSaid : Prop := textSwapsUptoRow.holds Tryd.pinned (OpenSpec.upto textSwapsSpec)

/-- 'souffleurlaw03.TextBack', WHERE WHAT IT READS IS OF BULK AT MOST 1048576: true; the input reads as it did. -/
def textBackUptoRow : OpenClaim := { program := "ytcifakmlfndlaaadoor", sum := "49c51db10c864afb7c36286e8deaa991b86b83dd3260a99e6ff8c29eed6e72d9", func := "souffleur/souffleurlaw03.TextBack", spec := "textBack", inPlace := ["internal/abi.NoEscape", "internal/bytealg.MakeNoZero"], unfollowed := true, recurses := true, named := ["unicode/utf8.first", "unicode/utf8.acceptRanges"], apart := false, laid := [("unicode/utf8.acceptRanges", laid_unicode_utf8_acceptRanges), ("unicode/utf8.first", laid_unicode_utf8_first)], narrowed := true }
def TextBackUptoSaid : Prop := textBackUptoRow.holds Tryd.pinned (OpenSpec.upto textBackSpec)

/-- 'souffleurlaw03.TextEnds', WHERE WHAT IT READS IS OF BULK AT MOST 1048576: true; the input reads as it did. -/
def textEndsUptoRow : OpenClaim := { program := "ytcifakmlfndlaaadoor", sum := "49c51db10c864afb7c36286e8deaa991b86b83dd3260a99e6ff8c29eed6e72d9", func := "souffleur/souffleurlaw03.TextEnds", spec := "textEnds", inPlace := ["internal/abi.NoEscape", "internal/bytealg.MakeNoZero"], unfollowed := true, recurses := true, named := ["unicode/utf8.first", "unicode/utf8.acceptRanges"], apart := false, laid := [("unicode/utf8.acceptRanges", laid_unicode_utf8_acceptRanges), ("unicode/utf8.first", laid_unicode_utf8_first)], narrowed := true }
def TextEndsUptoSaid : Prop := textEndsUptoRow.holds Tryd.pinned (OpenSpec.upto textEndsSpec)

/-- 'souffleurlaw03.TextWords', WHERE WHAT IT READS IS OF BULK AT MOST 1048576: true; the input reads as it did. -/
def textWordsUptoRow : OpenClaim := { program := "ytcifakmlfndlaaadoor", sum := "49c51db10c864afb7c36286e8deaa991b86b83dd3260a99e6ff8c29eed6e72d9", func := "souffleur/souffleurlaw03.TextWords", spec := "textWords", inPlace := ["internal/abi.NoEscape", "internal/bytealg.MakeNoZero"], unfollowed := true, recurses := true, named := ["unicode/utf8.first", "unicode/utf8.acceptRanges"], apart := false, laid := [("unicode/utf8.acceptRanges", laid_unicode_utf8_acceptRanges), ("unicode/utf8.first", laid_unicode_utf8_first)], narrowed := true }
def TextWordsUptoSaid : Prop := textWordsUptoRow.holds Tryd.pinned (OpenSpec.upto textWordsSpec)

end Rows
end Go.Proofs.YtcifakmlfndlaaaDoor
