/-
  NARROWER THAN 'FOR EVERY INPUT', by the rows' own cells (each row's printed sentence says how): HistAll: laid · HistUses: laid · HistAgain: laid · HistTurns: laid · HistCopies: laid · HistLimits: laid · HistWays: laid.
  DERIVED. THE GIVEN ROWS OF THIS SEAT. 7 by the template 'for every input the law returns true; each argument reads behind the call as it read before'; 0 by the template 'total and deterministic' (their statements: YtpemjhghiccngaaDoorTotals.lean).
  GIVEN WITH THE SEED: the statements are not yours to turn. If you find one false, say at which input.
  Laid BY PROGRAM, IN A SANDBOX (cutbox-rows.mjs): the forced cells as the released guide's own fill.sh prints them over the translation bd82344bf6a860ca… (all of the seat's roots in one cut). By AI agents, Wed Nov 11 2026. No macro, syntax, notation, axiom, sorry.
-/
import Derived.Test.YtpemjhghiccngaaDoorChecked
import GoSem.PinnedTables
import GoSem.Claim
import GoSem.ClaimJoined
import GoSem.ClaimMapViews
import Derived.JoinedTies
import Derived.KernelRfl
namespace Go.Proofs.YtpemjhghiccngaaDoor
/- THE CELL 'sum', in the pinned program and in every row, IS THE sha256 OF THE DUMP (.gsa) THAT YtpemjhghiccngaaDoorProg.lean LOADS. Nothing in Lean hashes anything: it is a label: what it is worth is what the hold of that sum in a sandbox is worth. -/
noncomputable def Tryd.pinned : Pinned := { name := "ytpemjhghiccngaadoor", sum := "bd82344bf6a860cade01864c5efd79f44346d5c5d3142346dfe936f4bda2c8ce", checked := Tryd.checked }
namespace Rows
def none {H : Type} : Left H := { results := [], args := [] }

/- WHAT THE LISTED PACKAGE-LEVEL VARIABLES READ AS WHEN THE CALL BEGINS. Each datum BY PROGRAM (the guide's laid-datum.mjs) off the statement by which the dump's own 'gosem.cut.vars' lays the variable. In a bare row this is a premise. The card (YtpemjhghiccngaaDoorCards.lean) ties it to the program's text. -/
def laid_unicode_utf8_acceptRanges {H : Type} : DataW H := .agg [.agg [.lit (.int .u8 128), .lit (.int .u8 191)], .agg [.lit (.int .u8 160), .lit (.int .u8 191)], .agg [.lit (.int .u8 128), .lit (.int .u8 159)], .agg [.lit (.int .u8 144), .lit (.int .u8 191)], .agg [.lit (.int .u8 128), .lit (.int .u8 143)], .agg [.lit (.int .u8 0), .lit (.int .u8 0)], .agg [.lit (.int .u8 0), .lit (.int .u8 0)], .agg [.lit (.int .u8 0), .lit (.int .u8 0)], .agg [.lit (.int .u8 0), .lit (.int .u8 0)], .agg [.lit (.int .u8 0), .lit (.int .u8 0)], .agg [.lit (.int .u8 0), .lit (.int .u8 0)], .agg [.lit (.int .u8 0), .lit (.int .u8 0)], .agg [.lit (.int .u8 0), .lit (.int .u8 0)], .agg [.lit (.int .u8 0), .lit (.int .u8 0)], .agg [.lit (.int .u8 0), .lit (.int .u8 0)], .agg [.lit (.int .u8 0), .lit (.int .u8 0)]]
/-- One of Go's own tables, pinned by name: the form's constant. -/
def laid_unicode_utf8_first : DataW Unit := Go.Pinned.utf8First

/-- 'souffleurlaw15.HistAll': WHATEVER THE INPUT: true; the input reads as it did. -/
def histAllSpec : ChangeSpec := { name := "histAll", fn := fun _ => fun
  | [d] => { results := [.lit (.bool true)], args := [d] }
  | _ => none }
def histAllRow : OpenClaim := { program := "ytpemjhghiccngaadoor", sum := "bd82344bf6a860cade01864c5efd79f44346d5c5d3142346dfe936f4bda2c8ce", func := "souffleur/souffleurlaw15.HistAll", spec := "histAll", inPlace := ["internal/abi.NoEscape", "internal/bytealg.MakeNoZero"], unfollowed := true, recurses := true, named := ["unicode/utf8.first", "unicode/utf8.acceptRanges"], apart := false, laid := [("unicode/utf8.acceptRanges", laid_unicode_utf8_acceptRanges), ("unicode/utf8.first", laid_unicode_utf8_first)] }
def HistAllSaid : Prop := histAllRow.holds Tryd.pinned (OpenSpec.ofChange histAllSpec)

/-- ITS FALSE NEIGHBOUR: 'it returns false'. Refute it at one input. -/
def histAllWrong : ChangeSpec := { name := "histAll", fn := fun _ => fun
  | [d] => { results := [.lit (.bool false)], args := [d] }
  | _ => none }
def HistAllWrongFalsely : Prop := histAllRow.holds Tryd.pinned (OpenSpec.ofChange histAllWrong)

/-- 'souffleurlaw15.HistUses': WHATEVER THE INPUT: true; the input reads as it did. -/
def histUsesSpec : ChangeSpec := { name := "histUses", fn := fun _ => fun
  | [d1, d2] => { results := [.lit (.bool true)], args := [d1, d2] }
  | _ => none }
def histUsesRow : OpenClaim := { program := "ytpemjhghiccngaadoor", sum := "bd82344bf6a860cade01864c5efd79f44346d5c5d3142346dfe936f4bda2c8ce", func := "souffleur/souffleurlaw15.HistUses", spec := "histUses", inPlace := ["internal/abi.NoEscape", "internal/bytealg.MakeNoZero"], unfollowed := true, recurses := true, named := ["unicode/utf8.first", "unicode/utf8.acceptRanges"], apart := false, laid := [("unicode/utf8.acceptRanges", laid_unicode_utf8_acceptRanges), ("unicode/utf8.first", laid_unicode_utf8_first)] }
def HistUsesSaid : Prop := histUsesRow.holds Tryd.pinned (OpenSpec.ofChange histUsesSpec)

/-- ITS FALSE NEIGHBOUR: 'it returns false'. Refute it at one input. -/
def histUsesWrong : ChangeSpec := { name := "histUses", fn := fun _ => fun
  | [d1, d2] => { results := [.lit (.bool false)], args := [d1, d2] }
  | _ => none }
def HistUsesWrongFalsely : Prop := histUsesRow.holds Tryd.pinned (OpenSpec.ofChange histUsesWrong)

/-- 'souffleurlaw15.HistAgain': WHATEVER THE INPUT: true; the input reads as it did. -/
def histAgainSpec : ChangeSpec := { name := "histAgain", fn := fun _ => fun
  | [d] => { results := [.lit (.bool true)], args := [d] }
  | _ => none }
def histAgainRow : OpenClaim := { program := "ytpemjhghiccngaadoor", sum := "bd82344bf6a860cade01864c5efd79f44346d5c5d3142346dfe936f4bda2c8ce", func := "souffleur/souffleurlaw15.HistAgain", spec := "histAgain", inPlace := ["internal/abi.NoEscape", "internal/bytealg.MakeNoZero"], unfollowed := true, recurses := true, named := ["unicode/utf8.first", "unicode/utf8.acceptRanges"], apart := false, laid := [("unicode/utf8.acceptRanges", laid_unicode_utf8_acceptRanges), ("unicode/utf8.first", laid_unicode_utf8_first)] }
def HistAgainSaid : Prop := histAgainRow.holds Tryd.pinned (OpenSpec.ofChange histAgainSpec)

/-- ITS FALSE NEIGHBOUR: 'it returns false'. Refute it at one input. -/
def histAgainWrong : ChangeSpec := { name := "histAgain", fn := fun _ => fun
  | [d] => { results := [.lit (.bool false)], args := [d] }
  | _ => none }
def HistAgainWrongFalsely : Prop := histAgainRow.holds Tryd.pinned (OpenSpec.ofChange histAgainWrong)

/-- 'souffleurlaw15.HistTurns': WHATEVER THE INPUT: true; the input reads as it did. -/
def histTurnsSpec : ChangeSpec := { name := "histTurns", fn := fun _ => fun
  | [d] => { results := [.lit (.bool true)], args := [d] }
  | _ => none }
def histTurnsRow : OpenClaim := { program := "ytpemjhghiccngaadoor", sum := "bd82344bf6a860cade01864c5efd79f44346d5c5d3142346dfe936f4bda2c8ce", func := "souffleur/souffleurlaw15.HistTurns", spec := "histTurns", inPlace := ["internal/abi.NoEscape", "internal/bytealg.MakeNoZero"], unfollowed := true, recurses := true, named := ["unicode/utf8.first", "unicode/utf8.acceptRanges"], apart := false, laid := [("unicode/utf8.acceptRanges", laid_unicode_utf8_acceptRanges), ("unicode/utf8.first", laid_unicode_utf8_first)] }
def HistTurnsSaid : Prop := histTurnsRow.holds Tryd.pinned (OpenSpec.ofChange histTurnsSpec)

/-- ITS FALSE NEIGHBOUR: 'it returns false'. Refute it at one input. -/
def histTurnsWrong : ChangeSpec := { name := "histTurns", fn := fun _ => fun
  | [d] => { results := [.lit (.bool false)], args := [d] }
  | _ => none }
def HistTurnsWrongFalsely : Prop := histTurnsRow.holds Tryd.pinned (OpenSpec.ofChange histTurnsWrong)

/-- 'souffleurlaw15.HistCopies': WHATEVER THE INPUT: true; the input reads as it did. -/
def histCopiesSpec : ChangeSpec := { name := "histCopies", fn := fun _ => fun
  | [d1, d2] => { results := [.lit (.bool true)], args := [d1, d2] }
  | _ => none }
def histCopiesRow : OpenClaim := { program := "ytpemjhghiccngaadoor", sum := "bd82344bf6a860cade01864c5efd79f44346d5c5d3142346dfe936f4bda2c8ce", func := "souffleur/souffleurlaw15.HistCopies", spec := "histCopies", inPlace := ["internal/abi.NoEscape", "internal/bytealg.MakeNoZero"], unfollowed := true, recurses := true, named := ["unicode/utf8.first", "unicode/utf8.acceptRanges"], apart := false, laid := [("unicode/utf8.acceptRanges", laid_unicode_utf8_acceptRanges), ("unicode/utf8.first", laid_unicode_utf8_first)] }
def HistCopiesSaid : Prop := histCopiesRow.holds Tryd.pinned (OpenSpec.ofChange histCopiesSpec)

/-- ITS FALSE NEIGHBOUR: 'it returns false'. Refute it at one input. -/
def histCopiesWrong : ChangeSpec := { name := "histCopies", fn := fun _ => fun
  | [d1, d2] => { results := [.lit (.bool false)], args := [d1, d2] }
  | _ => none }
def HistCopiesWrongFalsely : Prop := histCopiesRow.holds Tryd.pinned (OpenSpec.ofChange histCopiesWrong)

/-- 'souffleurlaw15.HistLimits': WHATEVER THE INPUT: true; the input reads as it did. -/
def histLimitsSpec : ChangeSpec := { name := "histLimits", fn := fun _ => fun
  | [d] => { results := [.lit (.bool true)], args := [d] }
  | _ => none }
def histLimitsRow : OpenClaim := { program := "ytpemjhghiccngaadoor", sum := "bd82344bf6a860cade01864c5efd79f44346d5c5d3142346dfe936f4bda2c8ce", func := "souffleur/souffleurlaw15.HistLimits", spec := "histLimits", inPlace := ["internal/abi.NoEscape", "internal/bytealg.MakeNoZero"], unfollowed := true, recurses := true, named := ["unicode/utf8.first", "unicode/utf8.acceptRanges"], apart := false, laid := [("unicode/utf8.acceptRanges", laid_unicode_utf8_acceptRanges), ("unicode/utf8.first", laid_unicode_utf8_first)] }
def HistLimitsSaid : Prop := histLimitsRow.holds Tryd.pinned (OpenSpec.ofChange histLimitsSpec)

/-- ITS FALSE NEIGHBOUR: 'it returns false'. Refute it at one input. -/
def histLimitsWrong : ChangeSpec := { name := "histLimits", fn := fun _ => fun
  | [d] => { results := [.lit (.bool false)], args := [d] }
  | _ => none }
def HistLimitsWrongFalsely : Prop := histLimitsRow.holds Tryd.pinned (OpenSpec.ofChange histLimitsWrong)

/-- 'souffleurlaw15.HistWays': WHATEVER THE INPUT: true; the input reads as it did. -/
def histWaysSpec : ChangeSpec := { name := "histWays", fn := fun _ => fun
  | [d1, d2, d3] => { results := [.lit (.bool true)], args := [d1, d2, d3] }
  | _ => none }
def histWaysRow : OpenClaim := { program := "ytpemjhghiccngaadoor", sum := "bd82344bf6a860cade01864c5efd79f44346d5c5d3142346dfe936f4bda2c8ce", func := "souffleur/souffleurlaw15.HistWays", spec := "histWays", inPlace := ["internal/abi.NoEscape", "internal/bytealg.MakeNoZero", "internal/bytealg.IndexByteString", "internal/bytealg.IndexString"], unfollowed := true, recurses := true, named := ["unicode/utf8.first", "unicode/utf8.acceptRanges", "internal/bytealg.MaxLen"], apart := false, laid := [("unicode/utf8.acceptRanges", laid_unicode_utf8_acceptRanges), ("unicode/utf8.first", laid_unicode_utf8_first)] }
def HistWaysSaid : Prop := histWaysRow.holds Tryd.pinned (OpenSpec.ofChange histWaysSpec)

/-- ITS FALSE NEIGHBOUR: 'it returns false'. Refute it at one input. -/
def histWaysWrong : ChangeSpec := { name := "histWays", fn := fun _ => fun
  | [d1, d2, d3] => { results := [.lit (.bool false)], args := [d1, d2, d3] }
  | _ => none }
def HistWaysWrongFalsely : Prop := histWaysRow.holds Tryd.pinned (OpenSpec.ofChange histWaysWrong)

/- THE SECOND FORM. 'bulk': how many values and letters a reading holds, each counted each time it is reached (what is shared counts as often as it is met; a slice's spare places count too). A statement '..UptoSaid' is the law's where the arguments, and the package variables that the reading takes, are together of bulk at most 1048576: NARROWER than '..Said'. Prove '..Said' where nothing that the law and all that it calls make is longer than what came in: it says more and counts as full. Else prove '..UptoSaid'. A law counts once. -/
mutual
def uptoBulk {H : Type} : DataW H → Nat
  | .lit (.string bytes) => bytes.length + 1
  | .lit _ => 1
  | .nil => 1
  | .ptr d => uptoBulk d + 1
  | .slice elems spare => uptoBulkAll elems + uptoBulkAll spare + 1
  | .agg parts => uptoBulkAll parts + 1
  | .iface _ d => uptoBulk d + 1
  | .map entries => uptoBulkEntries entries + 1
  | .held _ => 1
def uptoBulkAll {H : Type} : List (DataW H) → Nat
  | [] => 0
  | d :: r => uptoBulk d + uptoBulkAll r
def uptoBulkEntries {H : Type} : List (Lit × DataW H) → Nat
  | [] => 0
  | x :: r => uptoBulkEntry x + uptoBulkEntries r
def uptoBulkEntry {H : Type} : Lit × DataW H → Nat
  | (.string bytes, d) => bytes.length + uptoBulk d + 1
  | (_, d) => uptoBulk d + 1
 end
def uptoSmall : (H : Type) → List (DataW H) → Bool := fun _ ds => decide (uptoBulkAll ds ≤ 1048576)
def OpenSpec.upto (s : _root_.Go.ChangeSpec) : _root_.Go.OpenSpec := { _root_.Go.OpenSpec.ofChange s with cond := some uptoSmall }

/-- 'souffleurlaw15.HistAll', WHERE WHAT IT READS IS OF BULK AT MOST 1048576: true; the input reads as it did. -/
def histAllUptoRow : OpenClaim := { program := "ytpemjhghiccngaadoor", sum := "bd82344bf6a860cade01864c5efd79f44346d5c5d3142346dfe936f4bda2c8ce", func := "souffleur/souffleurlaw15.HistAll", spec := "histAll", inPlace := ["internal/abi.NoEscape", "internal/bytealg.MakeNoZero"], unfollowed := true, recurses := true, named := ["unicode/utf8.first", "unicode/utf8.acceptRanges"], apart := false, laid := [("unicode/utf8.acceptRanges", laid_unicode_utf8_acceptRanges), ("unicode/utf8.first", laid_unicode_utf8_first)], narrowed := true }
def HistAllUptoSaid : Prop := histAllUptoRow.holds Tryd.pinned (OpenSpec.upto histAllSpec)

/-- 'souffleurlaw15.HistUses', WHERE WHAT IT READS IS OF BULK AT MOST 1048576: true; the input reads as it did. -/
def histUsesUptoRow : OpenClaim := { program := "ytpemjhghiccngaadoor", sum := "bd82344bf6a860cade01864c5efd79f44346d5c5d3142346dfe936f4bda2c8ce", func := "souffleur/souffleurlaw15.HistUses", spec := "histUses", inPlace := ["internal/abi.NoEscape", "internal/bytealg.MakeNoZero"], unfollowed := true, recurses := true, named := ["unicode/utf8.first", "unicode/utf8.acceptRanges"], apart := false, laid := [("unicode/utf8.acceptRanges", laid_unicode_utf8_acceptRanges), ("unicode/utf8.first", laid_unicode_utf8_first)], narrowed := true }
def HistUsesUptoSaid : Prop := histUsesUptoRow.holds Tryd.pinned (OpenSpec.upto histUsesSpec)

/-- 'souffleurlaw15.HistAgain', WHERE WHAT IT READS IS OF BULK AT MOST 1048576: true; the input reads as it did. -/
def histAgainUptoRow : OpenClaim := { program := "ytpemjhghiccngaadoor", sum := "bd82344bf6a860cade01864c5efd79f44346d5c5d3142346dfe936f4bda2c8ce", func := "souffleur/souffleurlaw15.HistAgain", spec := "histAgain", inPlace := ["internal/abi.NoEscape", "internal/bytealg.MakeNoZero"], unfollowed := true, recurses := true, named := ["unicode/utf8.first", "unicode/utf8.acceptRanges"], apart := false, laid := [("unicode/utf8.acceptRanges", laid_unicode_utf8_acceptRanges), ("unicode/utf8.first", laid_unicode_utf8_first)], narrowed := true }
def HistAgainUptoSaid : Prop := histAgainUptoRow.holds Tryd.pinned (OpenSpec.upto histAgainSpec)

/-- 'souffleurlaw15.HistTurns', WHERE WHAT IT READS IS OF BULK AT MOST 1048576: true; the input reads as it did. -/
def histTurnsUptoRow : OpenClaim := { program := "ytpemjhghiccngaadoor", sum := "bd82344bf6a860cade01864c5efd79f44346d5c5d3142346dfe936f4bda2c8ce", func := "souffleur/souffleurlaw15.HistTurns", spec := "histTurns", inPlace := ["internal/abi.NoEscape", "internal/bytealg.MakeNoZero"], unfollowed := true, recurses := true, named := ["unicode/utf8.first", "unicode/utf8.acceptRanges"], apart := false, laid := [("unicode/utf8.acceptRanges", laid_unicode_utf8_acceptRanges), ("unicode/utf8.first", laid_unicode_utf8_first)], narrowed := true }
def HistTurnsUptoSaid : Prop := histTurnsUptoRow.holds Tryd.pinned (OpenSpec.upto histTurnsSpec)

/-- 'souffleurlaw15.HistCopies', WHERE WHAT IT READS IS OF BULK AT MOST 1048576: true; the input reads as it did. -/
def histCopiesUptoRow : OpenClaim := { program := "ytpemjhghiccngaadoor", sum := "bd82344bf6a860cade01864c5efd79f44346d5c5d3142346dfe936f4bda2c8ce", func := "souffleur/souffleurlaw15.HistCopies", spec := "histCopies", inPlace := ["internal/abi.NoEscape", "internal/bytealg.MakeNoZero"], unfollowed := true, recurses := true, named := ["unicode/utf8.first", "unicode/utf8.acceptRanges"], apart := false, laid := [("unicode/utf8.acceptRanges", laid_unicode_utf8_acceptRanges), ("unicode/utf8.first", laid_unicode_utf8_first)], narrowed := true }
def HistCopiesUptoSaid : Prop := histCopiesUptoRow.holds Tryd.pinned (OpenSpec.upto histCopiesSpec)

/-- 'souffleurlaw15.HistLimits', WHERE WHAT IT READS IS OF BULK AT MOST 1048576: true; the input reads as it did. -/
def histLimitsUptoRow : OpenClaim := { program := "ytpemjhghiccngaadoor", sum := "bd82344bf6a860cade01864c5efd79f44346d5c5d3142346dfe936f4bda2c8ce", func := "souffleur/souffleurlaw15.HistLimits", spec := "histLimits", inPlace := ["internal/abi.NoEscape", "internal/bytealg.MakeNoZero"], unfollowed := true, recurses := true, named := ["unicode/utf8.first", "unicode/utf8.acceptRanges"], apart := false, laid := [("unicode/utf8.acceptRanges", laid_unicode_utf8_acceptRanges), ("unicode/utf8.first", laid_unicode_utf8_first)], narrowed := true }
def HistLimitsUptoSaid : Prop := histLimitsUptoRow.holds Tryd.pinned (OpenSpec.upto histLimitsSpec)

/-- 'souffleurlaw15.HistWays', WHERE WHAT IT READS IS OF BULK AT MOST 1048576: true; the input reads as it did. -/
def histWaysUptoRow : OpenClaim := { program := "ytpemjhghiccngaadoor", sum := "bd82344bf6a860cade01864c5efd79f44346d5c5d3142346dfe936f4bda2c8ce", func := "souffleur/souffleurlaw15.HistWays", spec := "histWays", inPlace := ["internal/abi.NoEscape", "internal/bytealg.MakeNoZero", "internal/bytealg.IndexByteString", "internal/bytealg.IndexString"], unfollowed := true, recurses := true, named := ["unicode/utf8.first", "unicode/utf8.acceptRanges", "internal/bytealg.MaxLen"], apart := false, laid := [("unicode/utf8.acceptRanges", laid_unicode_utf8_acceptRanges), ("unicode/utf8.first", laid_unicode_utf8_first)], narrowed := true }
def HistWaysUptoSaid : Prop := histWaysUptoRow.holds Tryd.pinned (OpenSpec.upto histWaysSpec)

end Rows
end Go.Proofs.YtpemjhghiccngaaDoor
