/-
  No cell of these rows narrows 'for every input' (looked for: loops, veiled, ifaces, maps, wideKeys, modest, calm, conditions, laid).
  DERIVED. THE GIVEN ROWS OF THIS SEAT. 7 by the template 'for every input the law returns true; each argument reads behind the call as it read before'; 0 by the template 'total and deterministic' (their statements: YtfegchonclhjjaaTotals.lean).
  GIVEN WITH THE SEED: the statements are not yours to turn. If you find one false, say at which input.
  Laid BY PROGRAM, IN A SANDBOX (cutbox-rows.mjs): the forced cells as the released guide's own fill.sh prints them over the translation d85578fc64905d71… (all of the seat's roots in one cut). By AI agents, Wed Nov 11 2026. No macro, syntax, notation, axiom, sorry.
-/
import Derived.Test.YtfegchonclhjjaaChecked
import GoSem.Claim
import GoSem.ClaimJoined
import GoSem.ClaimMapViews
import Derived.JoinedTies
import Derived.KernelRfl
namespace Go.Proofs.Ytfegchonclhjjaa
/- THE CELL 'sum', in the pinned program and in every row, IS THE sha256 OF THE DUMP (.gsa) THAT YtfegchonclhjjaaProg.lean LOADS. Nothing in Lean hashes anything: it is a label: what it is worth is what the hold of that sum in a sandbox is worth. -/
noncomputable def Try.pinned : Pinned := { name := "ytfegchonclhjjaa", sum := "d85578fc64905d718743e67e6c29dbf1afabcc14113a05a4be75ed98b4536371", checked := Try.checked }
namespace Rows
def none {H : Type} : Left H := { results := [], args := [] }

/-- 'souffleurlaw02.WidthSigns': WHATEVER THE INPUT: true; the input reads as it did. -/
def widthSignsSpec : ChangeSpec := { name := "widthSigns", fn := fun _ => fun
  | [d] => { results := [.lit (.bool true)], args := [d] }
  | _ => none }
def widthSignsRow : OpenClaim := { program := "ytfegchonclhjjaa", sum := "d85578fc64905d718743e67e6c29dbf1afabcc14113a05a4be75ed98b4536371", func := "souffleur/souffleurlaw02.WidthSigns", spec := "widthSigns", unfollowed := true, recurses := true, apart := false }
def WidthSignsSaid : Prop := widthSignsRow.holds Try.pinned (OpenSpec.ofChange widthSignsSpec)

/-- ITS FALSE NEIGHBOUR: 'it returns false'. Refute it at one input. -/
def widthSignsWrong : ChangeSpec := { name := "widthSigns", fn := fun _ => fun
  | [d] => { results := [.lit (.bool false)], args := [d] }
  | _ => none }
def WidthSignsWrongFalsely : Prop := widthSignsRow.holds Try.pinned (OpenSpec.ofChange widthSignsWrong)

/-- 'souffleurlaw02.WidthCuts': WHATEVER THE INPUT: true; the input reads as it did. -/
def widthCutsSpec : ChangeSpec := { name := "widthCuts", fn := fun _ => fun
  | [d] => { results := [.lit (.bool true)], args := [d] }
  | _ => none }
def widthCutsRow : OpenClaim := { program := "ytfegchonclhjjaa", sum := "d85578fc64905d718743e67e6c29dbf1afabcc14113a05a4be75ed98b4536371", func := "souffleur/souffleurlaw02.WidthCuts", spec := "widthCuts", unfollowed := true, recurses := true, apart := false }
def WidthCutsSaid : Prop := widthCutsRow.holds Try.pinned (OpenSpec.ofChange widthCutsSpec)

/-- ITS FALSE NEIGHBOUR: 'it returns false'. Refute it at one input. -/
def widthCutsWrong : ChangeSpec := { name := "widthCuts", fn := fun _ => fun
  | [d] => { results := [.lit (.bool false)], args := [d] }
  | _ => none }
def WidthCutsWrongFalsely : Prop := widthCutsRow.holds Try.pinned (OpenSpec.ofChange widthCutsWrong)

/-- 'souffleurlaw02.WidthShows': WHATEVER THE INPUT: true; the input reads as it did. -/
def widthShowsSpec : ChangeSpec := { name := "widthShows", fn := fun _ => fun
  | [d] => { results := [.lit (.bool true)], args := [d] }
  | _ => none }
def widthShowsRow : OpenClaim := { program := "ytfegchonclhjjaa", sum := "d85578fc64905d718743e67e6c29dbf1afabcc14113a05a4be75ed98b4536371", func := "souffleur/souffleurlaw02.WidthShows", spec := "widthShows", unfollowed := true, recurses := true, apart := false }
def WidthShowsSaid : Prop := widthShowsRow.holds Try.pinned (OpenSpec.ofChange widthShowsSpec)

/-- ITS FALSE NEIGHBOUR: 'it returns false'. Refute it at one input. -/
def widthShowsWrong : ChangeSpec := { name := "widthShows", fn := fun _ => fun
  | [d] => { results := [.lit (.bool false)], args := [d] }
  | _ => none }
def WidthShowsWrongFalsely : Prop := widthShowsRow.holds Try.pinned (OpenSpec.ofChange widthShowsWrong)

/-- 'souffleurlaw02.WidthEach': WHATEVER THE INPUT: true; the input reads as it did. -/
def widthEachSpec : ChangeSpec := { name := "widthEach", fn := fun _ => fun
  | [d1, d2] => { results := [.lit (.bool true)], args := [d1, d2] }
  | _ => none }
def widthEachRow : OpenClaim := { program := "ytfegchonclhjjaa", sum := "d85578fc64905d718743e67e6c29dbf1afabcc14113a05a4be75ed98b4536371", func := "souffleur/souffleurlaw02.WidthEach", spec := "widthEach", unfollowed := true, recurses := true, apart := false }
def WidthEachSaid : Prop := widthEachRow.holds Try.pinned (OpenSpec.ofChange widthEachSpec)

/-- ITS FALSE NEIGHBOUR: 'it returns false'. Refute it at one input. -/
def widthEachWrong : ChangeSpec := { name := "widthEach", fn := fun _ => fun
  | [d1, d2] => { results := [.lit (.bool false)], args := [d1, d2] }
  | _ => none }
def WidthEachWrongFalsely : Prop := widthEachRow.holds Try.pinned (OpenSpec.ofChange widthEachWrong)

/-- 'souffleurlaw02.WidthJoins': WHATEVER THE INPUT: true; the input reads as it did. -/
def widthJoinsSpec : ChangeSpec := { name := "widthJoins", fn := fun _ => fun
  | [d1, d2] => { results := [.lit (.bool true)], args := [d1, d2] }
  | _ => none }
def widthJoinsRow : OpenClaim := { program := "ytfegchonclhjjaa", sum := "d85578fc64905d718743e67e6c29dbf1afabcc14113a05a4be75ed98b4536371", func := "souffleur/souffleurlaw02.WidthJoins", spec := "widthJoins", unfollowed := true, recurses := true, apart := false }
def WidthJoinsSaid : Prop := widthJoinsRow.holds Try.pinned (OpenSpec.ofChange widthJoinsSpec)

/-- ITS FALSE NEIGHBOUR: 'it returns false'. Refute it at one input. -/
def widthJoinsWrong : ChangeSpec := { name := "widthJoins", fn := fun _ => fun
  | [d1, d2] => { results := [.lit (.bool false)], args := [d1, d2] }
  | _ => none }
def WidthJoinsWrongFalsely : Prop := widthJoinsRow.holds Try.pinned (OpenSpec.ofChange widthJoinsWrong)

/-- 'souffleurlaw02.WidthAgain': WHATEVER THE INPUT: true; the input reads as it did. -/
def widthAgainSpec : ChangeSpec := { name := "widthAgain", fn := fun _ => fun
  | [d] => { results := [.lit (.bool true)], args := [d] }
  | _ => none }
def widthAgainRow : OpenClaim := { program := "ytfegchonclhjjaa", sum := "d85578fc64905d718743e67e6c29dbf1afabcc14113a05a4be75ed98b4536371", func := "souffleur/souffleurlaw02.WidthAgain", spec := "widthAgain", unfollowed := true, recurses := true, apart := false }
def WidthAgainSaid : Prop := widthAgainRow.holds Try.pinned (OpenSpec.ofChange widthAgainSpec)

/-- ITS FALSE NEIGHBOUR: 'it returns false'. Refute it at one input. -/
def widthAgainWrong : ChangeSpec := { name := "widthAgain", fn := fun _ => fun
  | [d] => { results := [.lit (.bool false)], args := [d] }
  | _ => none }
def WidthAgainWrongFalsely : Prop := widthAgainRow.holds Try.pinned (OpenSpec.ofChange widthAgainWrong)

/-- 'souffleurlaw02.WidthSums': WHATEVER THE INPUT: true; the input reads as it did. -/
def widthSumsSpec : ChangeSpec := { name := "widthSums", fn := fun _ => fun
  | [d1, d2] => { results := [.lit (.bool true)], args := [d1, d2] }
  | _ => none }
def widthSumsRow : OpenClaim := { program := "ytfegchonclhjjaa", sum := "d85578fc64905d718743e67e6c29dbf1afabcc14113a05a4be75ed98b4536371", func := "souffleur/souffleurlaw02.WidthSums", spec := "widthSums", unfollowed := true, recurses := true, apart := false }
def WidthSumsSaid : Prop := widthSumsRow.holds Try.pinned (OpenSpec.ofChange widthSumsSpec)

/-- ITS FALSE NEIGHBOUR: 'it returns false'. Refute it at one input. -/
def widthSumsWrong : ChangeSpec := { name := "widthSums", fn := fun _ => fun
  | [d1, d2] => { results := [.lit (.bool false)], args := [d1, d2] }
  | _ => none }
def WidthSumsWrongFalsely : Prop := widthSumsRow.holds Try.pinned (OpenSpec.ofChange widthSumsWrong)

/- THE SECOND FORM. 'bulk': how many values and letters a reading holds, each counted each time it is reached (what is shared counts as often as it is met; a slice's spare places count too). A statement '..UptoSaid' is the law's where the arguments, and the package variables that the reading takes, are together of bulk at most 1048576: NARROWER than '..Said'. Prove '..Said' where nothing that the law and all that it calls make is longer than what came in: it says more and counts as full. Else prove '..UptoSaid'. A law counts once. -/
mutual
def uptoBulk {H : Type} : DataW H → Nat
  | .lit (.string bytes) => bytes.length + 1
  | .lit _ => 1
  | .nil => 1
  | .ptr d => uptoBulk d + 1
  | .slice elems spare => uptoBulkAll elems + uptoBulkAll spare + 1
  | .agg parts => uptoBulkAll parts + 1
  | .iface _ d => uptoBulk d + 1
  | .map entries => uptoBulkEntries entries + 1
  | .held _ => 1
def uptoBulkAll {H : Type} : List (DataW H) → Nat
  | [] => 0
  | d :: r => uptoBulk d + uptoBulkAll r
def uptoBulkEntries {H : Type} : List (Lit × DataW H) → Nat
  | [] => 0
  | x :: r => uptoBulkEntry x + uptoBulkEntries r
def uptoBulkEntry {H : Type} : Lit × DataW H → Nat
  | (.string bytes, d) => bytes.length + uptoBulk d + 1
  | (_, d) => uptoBulk d + 1
 end
def uptoSmall : (H : Type) → List (DataW H) → Bool := fun _ ds => decide (uptoBulkAll ds ≤ 1048576)
def OpenSpec.upto (s : _root_.Go.ChangeSpec) : _root_.Go.OpenSpec := { _root_.Go.OpenSpec.ofChange s with cond := some uptoSmall }

/-- 'souffleurlaw02.WidthSigns', WHERE WHAT IT READS IS OF BULK AT MOST 1048576: true; the input reads as it did. -/
def widthSignsUptoRow : OpenClaim := { program := "ytfegchonclhjjaa", sum := "d85578fc64905d718743e67e6c29dbf1afabcc14113a05a4be75ed98b4536371", func := "souffleur/souffleurlaw02.WidthSigns", spec := "widthSigns", unfollowed := true, recurses := true, apart := false, narrowed := true }
def WidthSignsUptoSaid : Prop := widthSignsUptoRow.holds Try.pinned (OpenSpec.upto widthSignsSpec)

/-- 'souffleurlaw02.WidthCuts', WHERE WHAT IT READS IS OF BULK AT MOST 1048576: true; the input reads as it did. -/
def widthCutsUptoRow : OpenClaim := { program := "ytfegchonclhjjaa", sum := "d85578fc64905d718743e67e6c29dbf1afabcc14113a05a4be75ed98b4536371", func := "souffleur/souffleurlaw02.WidthCuts", spec := "widthCuts", unfollowed := true, recurses := true, apart := false, narrowed := true }
def WidthCutsUptoSaid : Prop := widthCutsUptoRow.holds Try.pinned (OpenSpec.upto widthCutsSpec)

/-- 'souffleurlaw02.WidthShows', WHERE WHAT IT READS IS OF BULK AT MOST 1048576: true; the input reads as it did. -/
def widthShowsUptoRow : OpenClaim := { program := "ytfegchonclhjjaa", sum := "d85578fc64905d718743e67e6c29dbf1afabcc14113a05a4be75ed98b4536371", func := "souffleur/souffleurlaw02.WidthShows", spec := "widthShows", unfollowed := true, recurses := true, apart := false, narrowed := true }
def WidthShowsUptoSaid : Prop := widthShowsUptoRow.holds Try.pinned (OpenSpec.upto widthShowsSpec)

/-- 'souffleurlaw02.WidthEach', WHERE WHAT IT READS IS OF BULK AT MOST 1048576: true; the input reads as it did. -/
def widthEachUptoRow : OpenClaim := { program := "ytfegchonclhjjaa", sum := "d85578fc64905d718743e67e6c29dbf1afabcc14113a05a4be75ed98b4536371", func := "souffleur/souffleurlaw02.WidthEach", spec := "widthEach", unfollowed := true, recurses := true, apart := false, narrowed := true }
def WidthEachUptoSaid : Prop := widthEachUptoRow.holds Try.pinned (OpenSpec.upto widthEachSpec)

/-- 'souffleurlaw02.WidthJoins', WHERE WHAT IT READS IS OF BULK AT MOST 1048576: true; the input reads as it did. -/
def widthJoinsUptoRow : OpenClaim := { program := "ytfegchonclhjjaa", sum := "d85578fc64905d718743e67e6c29dbf1afabcc14113a05a4be75ed98b4536371", func := "souffleur/souffleurlaw02.WidthJoins", spec := "widthJoins", unfollowed := true, recurses := true, apart := false, narrowed := true }
def WidthJoinsUptoSaid : Prop := widthJoinsUptoRow.holds Try.pinned (OpenSpec.upto widthJoinsSpec)

/-- 'souffleurlaw02.WidthAgain', WHERE WHAT IT READS IS OF BULK AT MOST 1048576: true; the input reads as it did. -/
def widthAgainUptoRow : OpenClaim := { program := "ytfegchonclhjjaa", sum := "d85578fc64905d718743e67e6c29dbf1afabcc14113a05a4be75ed98b4536371", func := "souffleur/souffleurlaw02.WidthAgain", spec := "widthAgain", unfollowed := true, recurses := true, apart := false, narrowed := true }
def WidthAgainUptoSaid : Prop := widthAgainUptoRow.holds Try.pinned (OpenSpec.upto widthAgainSpec)

/-- 'souffleurlaw02.WidthSums', WHERE WHAT IT READS IS OF BULK AT MOST 1048576: true; the input reads as it did. -/
def widthSumsUptoRow : OpenClaim := { program := "ytfegchonclhjjaa", sum := "d85578fc64905d718743e67e6c29dbf1afabcc14113a05a4be75ed98b4536371", func := "souffleur/souffleurlaw02.WidthSums", spec := "widthSums", unfollowed := true, recurses := true, apart := false, narrowed := true }
def WidthSumsUptoSaid : Prop := widthSumsUptoRow.holds Try.pinned (OpenSpec.upto widthSumsSpec)

end Rows
end Go.Proofs.Ytfegchonclhjjaa
