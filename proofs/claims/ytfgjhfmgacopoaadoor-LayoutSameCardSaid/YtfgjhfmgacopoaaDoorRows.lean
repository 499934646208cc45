/-
  NARROWER THAN 'FOR EVERY INPUT', by the rows' own cells (each row's printed sentence says how): LayoutCells: laid · LayoutGhost: laid · LayoutDots: laid · LayoutText: laid · LayoutSame: laid · LayoutTop: laid.
  DERIVED. THE GIVEN ROWS OF THIS SEAT. 6 by the template 'for every input the law returns true; each argument reads behind the call as it read before'; 0 by the template 'total and deterministic' (their statements: YtfgjhfmgacopoaaDoorTotals.lean).
  GIVEN WITH THE SEED: the statements are not yours to turn. If you find one false, say at which input.
  Laid BY PROGRAM, IN A SANDBOX (cutbox-rows.mjs): the forced cells as the released guide's own fill.sh prints them over the translation 75a87c4450f63ede… (all of the seat's roots in one cut). By AI agents, Wed Nov 11 2026. No macro, syntax, notation, axiom, sorry.
-/
import Derived.Test.YtfgjhfmgacopoaaDoorChecked
import GoSem.PinnedTables
import GoSem.Claim
import GoSem.ClaimJoined
import GoSem.ClaimMapViews
import Derived.JoinedTies
import Derived.KernelRfl
namespace Go.Proofs.YtfgjhfmgacopoaaDoor
/- THE CELL 'sum', in the pinned program and in every row, IS THE sha256 OF THE DUMP (.gsa) THAT YtfgjhfmgacopoaaDoorProg.lean LOADS. Nothing in Lean hashes anything: it is a label: what it is worth is what the hold of that sum in a sandbox is worth. -/
noncomputable def Tryd.pinned : Pinned := { name := "ytfgjhfmgacopoaadoor", sum := "75a87c4450f63ede7fb02071e0ba40bfe0bbb9476721c0e7a5038aa3b6c81d84", checked := Tryd.checked }
namespace Rows
def none {H : Type} : Left H := { results := [], args := [] }

/- WHAT THE LISTED PACKAGE-LEVEL VARIABLES READ AS WHEN THE CALL BEGINS. Each datum BY PROGRAM (the guide's laid-datum.mjs) off the statement by which the dump's own 'gosem.cut.vars' lays the variable. In a bare row this is a premise. The card (YtfgjhfmgacopoaaDoorCards.lean) ties it to the program's text. -/
def laid_unicode_utf8_acceptRanges {H : Type} : DataW H := .agg [.agg [.lit (.int .u8 128), .lit (.int .u8 191)], .agg [.lit (.int .u8 160), .lit (.int .u8 191)], .agg [.lit (.int .u8 128), .lit (.int .u8 159)], .agg [.lit (.int .u8 144), .lit (.int .u8 191)], .agg [.lit (.int .u8 128), .lit (.int .u8 143)], .agg [.lit (.int .u8 0), .lit (.int .u8 0)], .agg [.lit (.int .u8 0), .lit (.int .u8 0)], .agg [.lit (.int .u8 0), .lit (.int .u8 0)], .agg [.lit (.int .u8 0), .lit (.int .u8 0)], .agg [.lit (.int .u8 0), .lit (.int .u8 0)], .agg [.lit (.int .u8 0), .lit (.int .u8 0)], .agg [.lit (.int .u8 0), .lit (.int .u8 0)], .agg [.lit (.int .u8 0), .lit (.int .u8 0)], .agg [.lit (.int .u8 0), .lit (.int .u8 0)], .agg [.lit (.int .u8 0), .lit (.int .u8 0)], .agg [.lit (.int .u8 0), .lit (.int .u8 0)]]
/-- One of Go's own tables, pinned by name: the form's constant. -/
def laid_unicode_utf8_first : DataW Unit := Go.Pinned.utf8First

/-- 'souffleurlaw18.LayoutCells': WHATEVER THE INPUT: true; the input reads as it did. -/
def layoutCellsSpec : ChangeSpec := { name := "layoutCells", fn := fun _ => fun
  | [d] => { results := [.lit (.bool true)], args := [d] }
  | _ => none }
def layoutCellsRow : OpenClaim := { program := "ytfgjhfmgacopoaadoor", sum := "75a87c4450f63ede7fb02071e0ba40bfe0bbb9476721c0e7a5038aa3b6c81d84", func := "souffleur/souffleurlaw18.LayoutCells", spec := "layoutCells", inPlace := ["internal/abi.NoEscape", "internal/bytealg.MakeNoZero"], unfollowed := true, recurses := true, named := ["unicode/utf8.first", "unicode/utf8.acceptRanges"], apart := false, laid := [("unicode/utf8.acceptRanges", laid_unicode_utf8_acceptRanges), ("unicode/utf8.first", laid_unicode_utf8_first)] }
def LayoutCellsSaid : Prop := layoutCellsRow.holds Tryd.pinned (OpenSpec.ofChange layoutCellsSpec)

/-- ITS FALSE NEIGHBOUR: 'it returns false'. Refute it at one input. -/
def layoutCellsWrong : ChangeSpec := { name := "layoutCells", fn := fun _ => fun
  | [d] => { results := [.lit (.bool false)], args := [d] }
  | _ => none }
def LayoutCellsWrongFalsely : Prop := layoutCellsRow.holds Tryd.pinned (OpenSpec.ofChange layoutCellsWrong)

/-- 'souffleurlaw18.LayoutGhost': WHATEVER THE INPUT: true; the input reads as it did. -/
def layoutGhostSpec : ChangeSpec := { name := "layoutGhost", fn := fun _ => fun
  | [d] => { results := [.lit (.bool true)], args := [d] }
  | _ => none }
def layoutGhostRow : OpenClaim := { program := "ytfgjhfmgacopoaadoor", sum := "75a87c4450f63ede7fb02071e0ba40bfe0bbb9476721c0e7a5038aa3b6c81d84", func := "souffleur/souffleurlaw18.LayoutGhost", spec := "layoutGhost", inPlace := ["internal/abi.NoEscape", "internal/bytealg.MakeNoZero"], unfollowed := true, recurses := true, named := ["unicode/utf8.first", "unicode/utf8.acceptRanges"], apart := false, laid := [("unicode/utf8.acceptRanges", laid_unicode_utf8_acceptRanges), ("unicode/utf8.first", laid_unicode_utf8_first)] }
def LayoutGhostSaid : Prop := layoutGhostRow.holds Tryd.pinned (OpenSpec.ofChange layoutGhostSpec)

/-- ITS FALSE NEIGHBOUR: 'it returns false'. Refute it at one input. -/
def layoutGhostWrong : ChangeSpec := { name := "layoutGhost", fn := fun _ => fun
  | [d] => { results := [.lit (.bool false)], args := [d] }
  | _ => none }
def LayoutGhostWrongFalsely : Prop := layoutGhostRow.holds Tryd.pinned (OpenSpec.ofChange layoutGhostWrong)

/-- 'souffleurlaw18.LayoutDots': WHATEVER THE INPUT: true; the input reads as it did. -/
def layoutDotsSpec : ChangeSpec := { name := "layoutDots", fn := fun _ => fun
  | [d1, d2] => { results := [.lit (.bool true)], args := [d1, d2] }
  | _ => none }
def layoutDotsRow : OpenClaim := { program := "ytfgjhfmgacopoaadoor", sum := "75a87c4450f63ede7fb02071e0ba40bfe0bbb9476721c0e7a5038aa3b6c81d84", func := "souffleur/souffleurlaw18.LayoutDots", spec := "layoutDots", inPlace := ["internal/abi.NoEscape", "internal/bytealg.MakeNoZero"], unfollowed := true, recurses := true, named := ["unicode/utf8.first", "unicode/utf8.acceptRanges"], apart := false, laid := [("unicode/utf8.acceptRanges", laid_unicode_utf8_acceptRanges), ("unicode/utf8.first", laid_unicode_utf8_first)] }
def LayoutDotsSaid : Prop := layoutDotsRow.holds Tryd.pinned (OpenSpec.ofChange layoutDotsSpec)

/-- ITS FALSE NEIGHBOUR: 'it returns false'. Refute it at one input. -/
def layoutDotsWrong : ChangeSpec := { name := "layoutDots", fn := fun _ => fun
  | [d1, d2] => { results := [.lit (.bool false)], args := [d1, d2] }
  | _ => none }
def LayoutDotsWrongFalsely : Prop := layoutDotsRow.holds Tryd.pinned (OpenSpec.ofChange layoutDotsWrong)

/-- 'souffleurlaw18.LayoutText': WHATEVER THE INPUT: true; the input reads as it did. -/
def layoutTextSpec : ChangeSpec := { name := "layoutText", fn := fun _ => fun
  | [d1, d2, d3] => { results := [.lit (.bool true)], args := [d1, d2, d3] }
  | _ => none }
def layoutTextRow : OpenClaim := { program := "ytfgjhfmgacopoaadoor", sum := "75a87c4450f63ede7fb02071e0ba40bfe0bbb9476721c0e7a5038aa3b6c81d84", func := "souffleur/souffleurlaw18.LayoutText", spec := "layoutText", inPlace := ["internal/abi.NoEscape", "internal/bytealg.MakeNoZero"], unfollowed := true, recurses := true, named := ["unicode/utf8.first", "unicode/utf8.acceptRanges"], apart := false, laid := [("unicode/utf8.acceptRanges", laid_unicode_utf8_acceptRanges), ("unicode/utf8.first", laid_unicode_utf8_first)] }
def LayoutTextSaid : Prop := layoutTextRow.holds Tryd.pinned (OpenSpec.ofChange layoutTextSpec)

/-- ITS FALSE NEIGHBOUR: 'it returns false'. Refute it at one input. -/
def layoutTextWrong : ChangeSpec := { name := "layoutText", fn := fun _ => fun
  | [d1, d2, d3] => { results := [.lit (.bool false)], args := [d1, d2, d3] }
  | _ => none }
def LayoutTextWrongFalsely : Prop := layoutTextRow.holds Tryd.pinned (OpenSpec.ofChange layoutTextWrong)

/-- 'souffleurlaw18.LayoutSame': WHATEVER THE INPUT: true; the input reads as it did. -/
def layoutSameSpec : ChangeSpec := { name := "layoutSame", fn := fun _ => fun
  | [d1, d2] => { results := [.lit (.bool true)], args := [d1, d2] }
  | _ => none }
def layoutSameRow : OpenClaim := { program := "ytfgjhfmgacopoaadoor", sum := "75a87c4450f63ede7fb02071e0ba40bfe0bbb9476721c0e7a5038aa3b6c81d84", func := "souffleur/souffleurlaw18.LayoutSame", spec := "layoutSame", inPlace := ["internal/abi.NoEscape", "internal/bytealg.MakeNoZero"], unfollowed := true, recurses := true, named := ["unicode/utf8.first", "unicode/utf8.acceptRanges"], apart := false, laid := [("unicode/utf8.acceptRanges", laid_unicode_utf8_acceptRanges), ("unicode/utf8.first", laid_unicode_utf8_first)] }
def LayoutSameSaid : Prop := layoutSameRow.holds Tryd.pinned (OpenSpec.ofChange layoutSameSpec)

/-- ITS FALSE NEIGHBOUR: 'it returns false'. Refute it at one input. -/
def layoutSameWrong : ChangeSpec := { name := "layoutSame", fn := fun _ => fun
  | [d1, d2] => { results := [.lit (.bool false)], args := [d1, d2] }
  | _ => none }
def LayoutSameWrongFalsely : Prop := layoutSameRow.holds Tryd.pinned (OpenSpec.ofChange layoutSameWrong)

/-- 'souffleurlaw18.LayoutTop': WHATEVER THE INPUT: true; the input reads as it did. -/
def layoutTopSpec : ChangeSpec := { name := "layoutTop", fn := fun _ => fun
  | [d1, d2] => { results := [.lit (.bool true)], args := [d1, d2] }
  | _ => none }
def layoutTopRow : OpenClaim := { program := "ytfgjhfmgacopoaadoor", sum := "75a87c4450f63ede7fb02071e0ba40bfe0bbb9476721c0e7a5038aa3b6c81d84", func := "souffleur/souffleurlaw18.LayoutTop", spec := "layoutTop", inPlace := ["internal/abi.NoEscape", "internal/bytealg.MakeNoZero"], unfollowed := true, recurses := true, named := ["unicode/utf8.first", "unicode/utf8.acceptRanges"], apart := false, laid := [("unicode/utf8.acceptRanges", laid_unicode_utf8_acceptRanges), ("unicode/utf8.first", laid_unicode_utf8_first)] }
def LayoutTopSaid : Prop := layoutTopRow.holds Tryd.pinned (OpenSpec.ofChange layoutTopSpec)

/-- ITS FALSE NEIGHBOUR: 'it returns false'. Refute it at one input. -/
def layoutTopWrong : ChangeSpec := { name := "layoutTop", fn := fun _ => fun
  | [d1, d2] => { results := [.lit (.bool false)], args := [d1, d2] }
  | _ => none }
def LayoutTopWrongFalsely : Prop := layoutTopRow.holds Tryd.pinned (OpenSpec.ofChange layoutTopWrong)

/- THE SECOND FORM. 'bulk': how many values and letters a reading holds, each counted each time it is reached (what is shared counts as often as it is met; a slice's spare places count too). A statement '..UptoSaid' is the law's where the arguments, and the package variables that the reading takes, are together of bulk at most 1048576: NARROWER than '..Said'. Prove '..Said' where nothing that the law and all that it calls make is longer than what came in: it says more and counts as full. Else prove '..UptoSaid'. A law counts once. -/
mutual
def uptoBulk {H : Type} : DataW H → Nat
  | .lit (.string bytes) => bytes.length + 1
  | .lit _ => 1
  | .nil => 1
  | .ptr d => uptoBulk d + 1
  | .slice elems spare => uptoBulkAll elems + uptoBulkAll spare + 1
  | .agg parts => uptoBulkAll parts + 1
  | .iface _ d => uptoBulk d + 1
  | .map entries => uptoBulkEntries entries + 1
  | .held _ => 1
def uptoBulkAll {H : Type} : List (DataW H) → Nat
  | [] => 0
  | d :: r => uptoBulk d + uptoBulkAll r
def uptoBulkEntries {H : Type} : List (Lit × DataW H) → Nat
  | [] => 0
  | x :: r => uptoBulkEntry x + uptoBulkEntries r
def uptoBulkEntry {H : Type} : Lit × DataW H → Nat
  | (.string bytes, d) => bytes.length + uptoBulk d + 1
  | (_, d) => uptoBulk d + 1
 end
def uptoSmall : (H : Type) → List (DataW H) → Bool := fun _ ds => decide (uptoBulkAll ds ≤ 1048576)
def OpenSpec.upto (s : _root_.Go.ChangeSpec) : _root_.Go.OpenSpec := { _root_.Go.OpenSpec.ofChange s with cond := some uptoSmall }

/-- 'souffleurlaw18.LayoutCells', WHERE WHAT IT READS IS OF BULK AT MOST 1048576: true; the input reads as it did. -/
def layoutCellsUptoRow : OpenClaim := { program := "ytfgjhfmgacopoaadoor", sum := "75a87c4450f63ede7fb02071e0ba40bfe0bbb9476721c0e7a5038aa3b6c81d84", func := "souffleur/souffleurlaw18.LayoutCells", spec := "layoutCells", inPlace := ["internal/abi.NoEscape", "internal/bytealg.MakeNoZero"], unfollowed := true, recurses := true, named := ["unicode/utf8.first", "unicode/utf8.acceptRanges"], apart := false, laid := [("unicode/utf8.acceptRanges", laid_unicode_utf8_acceptRanges), ("unicode/utf8.first", laid_unicode_utf8_first)], narrowed := true }
def LayoutCellsUptoSaid : Prop := layoutCellsUptoRow.holds Tryd.pinned (OpenSpec.upto layoutCellsSpec)

/-- 'souffleurlaw18.LayoutGhost', WHERE WHAT IT READS IS OF BULK AT MOST 1048576: true; the input reads as it did. -/
def layoutGhostUptoRow : OpenClaim := { program := "ytfgjhfmgacopoaadoor", sum := "75a87c4450f63ede7fb02071e0ba40bfe0bbb9476721c0e7a5038aa3b6c81d84", func := "souffleur/souffleurlaw18.LayoutGhost", spec := "layoutGhost", inPlace := ["internal/abi.NoEscape", "internal/bytealg.MakeNoZero"], unfollowed := true, recurses := true, named := ["unicode/utf8.first", "unicode/utf8.acceptRanges"], apart := false, laid := [("unicode/utf8.acceptRanges", laid_unicode_utf8_acceptRanges), ("unicode/utf8.first", laid_unicode_utf8_first)], narrowed := true }
def LayoutGhostUptoSaid : Prop := layoutGhostUptoRow.holds Tryd.pinned (OpenSpec.upto layoutGhostSpec)

/-- 'souffleurlaw18.LayoutDots', WHERE WHAT IT READS IS OF BULK AT MOST 1048576: true; the input reads as it did. -/
def layoutDotsUptoRow : OpenClaim := { program := "ytfgjhfmgacopoaadoor", sum := "75a87c4450f63ede7fb02071e0ba40bfe0bbb9476721c0e7a5038aa3b6c81d84", func := "souffleur/souffleurlaw18.LayoutDots", spec := "layoutDots", inPlace := ["internal/abi.NoEscape", "internal/bytealg.MakeNoZero"], unfollowed := true, recurses := true, named := ["unicode/utf8.first", "unicode/utf8.acceptRanges"], apart := false, laid := [("unicode/utf8.acceptRanges", laid_unicode_utf8_acceptRanges), ("unicode/utf8.first", laid_unicode_utf8_first)], narrowed := true }
def LayoutDotsUptoSaid : Prop := layoutDotsUptoRow.holds Tryd.pinned (OpenSpec.upto layoutDotsSpec)

/-- 'souffleurlaw18.LayoutText', WHERE WHAT IT READS IS OF BULK AT MOST 1048576: true; the input reads as it did. -/
def layoutTextUptoRow : OpenClaim := { program := "ytfgjhfmgacopoaadoor", sum := "75a87c4450f63ede7fb02071e0ba40bfe0bbb9476721c0e7a5038aa3b6c81d84", func := "souffleur/souffleurlaw18.LayoutText", spec := "layoutText", inPlace := ["internal/abi.NoEscape", "internal/bytealg.MakeNoZero"], unfollowed := true, recurses := true, named := ["unicode/utf8.first", "unicode/utf8.acceptRanges"], apart := false, laid := [("unicode/utf8.acceptRanges", laid_unicode_utf8_acceptRanges), ("unicode/utf8.first", laid_unicode_utf8_first)], narrowed := true }
def LayoutTextUptoSaid : Prop := layoutTextUptoRow.holds Tryd.pinned (OpenSpec.upto layoutTextSpec)

/-- 'souffleurlaw18.LayoutSame', WHERE WHAT IT READS IS OF BULK AT MOST 1048576: true; the input reads as it did. -/
def layoutSameUptoRow : OpenClaim := { program := "ytfgjhfmgacopoaadoor", sum := "75a87c4450f63ede7fb02071e0ba40bfe0bbb9476721c0e7a5038aa3b6c81d84", func := "souffleur/souffleurlaw18.LayoutSame", spec := "layoutSame", inPlace := ["internal/abi.NoEscape", "internal/bytealg.MakeNoZero"], unfollowed := true, recurses := true, named := ["unicode/utf8.first", "unicode/utf8.acceptRanges"], apart := false, laid := [("unicode/utf8.acceptRanges", laid_unicode_utf8_acceptRanges), ("unicode/utf8.first", laid_unicode_utf8_first)], narrowed := true }
def LayoutSameUptoSaid : Prop := layoutSameUptoRow.holds Tryd.pinned (OpenSpec.upto layoutSameSpec)

/-- 'souffleurlaw18.LayoutTop', WHERE WHAT IT READS IS OF BULK AT MOST 1048576: true; the input reads as it did. -/
def layoutTopUptoRow : OpenClaim := { program := "ytfgjhfmgacopoaadoor", sum := "75a87c4450f63ede7fb02071e0ba40bfe0bbb9476721c0e7a5038aa3b6c81d84", func := "souffleur/souffleurlaw18.LayoutTop", spec := "layoutTop", inPlace := ["internal/abi.NoEscape", "internal/bytealg.MakeNoZero"], unfollowed := true, recurses := true, named := ["unicode/utf8.first", "unicode/utf8.acceptRanges"], apart := false, laid := [("unicode/utf8.acceptRanges", laid_unicode_utf8_acceptRanges), ("unicode/utf8.first", laid_unicode_utf8_first)], narrowed := true }
def LayoutTopUptoSaid : Prop := layoutTopUptoRow.holds Tryd.pinned (OpenSpec.upto layoutTopSpec)

end Rows
end Go.Proofs.YtfgjhfmgacopoaaDoor
