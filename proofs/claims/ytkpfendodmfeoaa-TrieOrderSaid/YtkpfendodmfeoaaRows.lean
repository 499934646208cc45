/-
  No cell of these rows narrows 'for every input' (looked for: loops, veiled, ifaces, maps, wideKeys, modest, calm, conditions, laid).
  DERIVED. THE GIVEN ROWS OF THIS SEAT. 7 by the template 'for every input the law returns true; each argument reads behind the call as it read before'; 0 by the template 'total and deterministic' (their statements: YtkpfendodmfeoaaTotals.lean).
  GIVEN WITH THE SEED: the statements are not yours to turn. If you find one false, say at which input.
  Laid BY PROGRAM, IN A SANDBOX (cutbox-rows.mjs): the forced cells as the released guide's own fill.sh prints them over the translation 8ecff873f640add7… (all of the seat's roots in one cut). By AI agents, Wed Nov 11 2026. No macro, syntax, notation, axiom, sorry.
-/
import Derived.Test.YtkpfendodmfeoaaChecked
import GoSem.Claim
import GoSem.ClaimJoined
import GoSem.ClaimMapViews
import Derived.JoinedTies
import Derived.KernelRfl
namespace Go.Proofs.Ytkpfendodmfeoaa
/- THE CELL 'sum', in the pinned program and in every row, IS THE sha256 OF THE DUMP (.gsa) THAT YtkpfendodmfeoaaProg.lean LOADS. Nothing in Lean hashes anything: it is a label: what it is worth is what the hold of that sum in a sandbox is worth. -/
noncomputable def Try.pinned : Pinned := { name := "ytkpfendodmfeoaa", sum := "8ecff873f640add7ccdfd61478866028e5ff85eeae564ddfc40ea07ccfa1e79f", checked := Try.checked }
namespace Rows
def none {H : Type} : Left H := { results := [], args := [] }

/-- 'souffleurlaw13.TrieOrder': WHATEVER THE INPUT: true; the input reads as it did. -/
def trieOrderSpec : ChangeSpec := { name := "trieOrder", fn := fun _ => fun
  | [d1, d2] => { results := [.lit (.bool true)], args := [d1, d2] }
  | _ => none }
def trieOrderRow : OpenClaim := { program := "ytkpfendodmfeoaa", sum := "8ecff873f640add7ccdfd61478866028e5ff85eeae564ddfc40ea07ccfa1e79f", func := "souffleur/souffleurlaw13.TrieOrder", spec := "trieOrder", inPlace := ["slices.overlaps[*souffleur/trie.node[int]]"], unfollowed := true, recurses := true, apart := false }
def TrieOrderSaid : Prop := trieOrderRow.holds Try.pinned (OpenSpec.ofChange trieOrderSpec)

/-- ITS FALSE NEIGHBOUR: 'it returns false'. Refute it at one input. -/
def trieOrderWrong : ChangeSpec := { name := "trieOrder", fn := fun _ => fun
  | [d1, d2] => { results := [.lit (.bool false)], args := [d1, d2] }
  | _ => none }
def TrieOrderWrongFalsely : Prop := trieOrderRow.holds Try.pinned (OpenSpec.ofChange trieOrderWrong)

/-- 'souffleurlaw13.TrieAll': WHATEVER THE INPUT: true; the input reads as it did. -/
def trieAllSpec : ChangeSpec := { name := "trieAll", fn := fun _ => fun
  | [d] => { results := [.lit (.bool true)], args := [d] }
  | _ => none }
def trieAllRow : OpenClaim := { program := "ytkpfendodmfeoaa", sum := "8ecff873f640add7ccdfd61478866028e5ff85eeae564ddfc40ea07ccfa1e79f", func := "souffleur/souffleurlaw13.TrieAll", spec := "trieAll", inPlace := ["slices.overlaps[*souffleur/trie.node[int]]"], unfollowed := true, recurses := true, apart := false }
def TrieAllSaid : Prop := trieAllRow.holds Try.pinned (OpenSpec.ofChange trieAllSpec)

/-- ITS FALSE NEIGHBOUR: 'it returns false'. Refute it at one input. -/
def trieAllWrong : ChangeSpec := { name := "trieAll", fn := fun _ => fun
  | [d] => { results := [.lit (.bool false)], args := [d] }
  | _ => none }
def TrieAllWrongFalsely : Prop := trieAllRow.holds Try.pinned (OpenSpec.ofChange trieAllWrong)

/-- 'souffleurlaw13.TrieUnder': WHATEVER THE INPUT: true; the input reads as it did. -/
def trieUnderSpec : ChangeSpec := { name := "trieUnder", fn := fun _ => fun
  | [d1, d2] => { results := [.lit (.bool true)], args := [d1, d2] }
  | _ => none }
def trieUnderRow : OpenClaim := { program := "ytkpfendodmfeoaa", sum := "8ecff873f640add7ccdfd61478866028e5ff85eeae564ddfc40ea07ccfa1e79f", func := "souffleur/souffleurlaw13.TrieUnder", spec := "trieUnder", inPlace := ["slices.overlaps[*souffleur/trie.node[int]]"], unfollowed := true, recurses := true, apart := false }
def TrieUnderSaid : Prop := trieUnderRow.holds Try.pinned (OpenSpec.ofChange trieUnderSpec)

/-- ITS FALSE NEIGHBOUR: 'it returns false'. Refute it at one input. -/
def trieUnderWrong : ChangeSpec := { name := "trieUnder", fn := fun _ => fun
  | [d1, d2] => { results := [.lit (.bool false)], args := [d1, d2] }
  | _ => none }
def TrieUnderWrongFalsely : Prop := trieUnderRow.holds Try.pinned (OpenSpec.ofChange trieUnderWrong)

/-- 'souffleurlaw13.TrieFinds': WHATEVER THE INPUT: true; the input reads as it did. -/
def trieFindsSpec : ChangeSpec := { name := "trieFinds", fn := fun _ => fun
  | [d1, d2] => { results := [.lit (.bool true)], args := [d1, d2] }
  | _ => none }
def trieFindsRow : OpenClaim := { program := "ytkpfendodmfeoaa", sum := "8ecff873f640add7ccdfd61478866028e5ff85eeae564ddfc40ea07ccfa1e79f", func := "souffleur/souffleurlaw13.TrieFinds", spec := "trieFinds", inPlace := ["slices.overlaps[*souffleur/trie.node[int]]"], unfollowed := true, recurses := true, apart := false }
def TrieFindsSaid : Prop := trieFindsRow.holds Try.pinned (OpenSpec.ofChange trieFindsSpec)

/-- ITS FALSE NEIGHBOUR: 'it returns false'. Refute it at one input. -/
def trieFindsWrong : ChangeSpec := { name := "trieFinds", fn := fun _ => fun
  | [d1, d2] => { results := [.lit (.bool false)], args := [d1, d2] }
  | _ => none }
def TrieFindsWrongFalsely : Prop := trieFindsRow.holds Try.pinned (OpenSpec.ofChange trieFindsWrong)

/-- 'souffleurlaw13.TrieBack': WHATEVER THE INPUT: true; the input reads as it did. -/
def trieBackSpec : ChangeSpec := { name := "trieBack", fn := fun _ => fun
  | [d1, d2] => { results := [.lit (.bool true)], args := [d1, d2] }
  | _ => none }
def trieBackRow : OpenClaim := { program := "ytkpfendodmfeoaa", sum := "8ecff873f640add7ccdfd61478866028e5ff85eeae564ddfc40ea07ccfa1e79f", func := "souffleur/souffleurlaw13.TrieBack", spec := "trieBack", inPlace := ["slices.overlaps[*souffleur/trie.node[int]]"], unfollowed := true, recurses := true, apart := false }
def TrieBackSaid : Prop := trieBackRow.holds Try.pinned (OpenSpec.ofChange trieBackSpec)

/-- ITS FALSE NEIGHBOUR: 'it returns false'. Refute it at one input. -/
def trieBackWrong : ChangeSpec := { name := "trieBack", fn := fun _ => fun
  | [d1, d2] => { results := [.lit (.bool false)], args := [d1, d2] }
  | _ => none }
def TrieBackWrongFalsely : Prop := trieBackRow.holds Try.pinned (OpenSpec.ofChange trieBackWrong)

/-- 'souffleurlaw13.TrieEach': WHATEVER THE INPUT: true; the input reads as it did. -/
def trieEachSpec : ChangeSpec := { name := "trieEach", fn := fun _ => fun
  | [d1, d2, d3] => { results := [.lit (.bool true)], args := [d1, d2, d3] }
  | _ => none }
def trieEachRow : OpenClaim := { program := "ytkpfendodmfeoaa", sum := "8ecff873f640add7ccdfd61478866028e5ff85eeae564ddfc40ea07ccfa1e79f", func := "souffleur/souffleurlaw13.TrieEach", spec := "trieEach", inPlace := ["slices.overlaps[*souffleur/trie.node[int]]"], unfollowed := true, recurses := true, apart := false }
def TrieEachSaid : Prop := trieEachRow.holds Try.pinned (OpenSpec.ofChange trieEachSpec)

/-- ITS FALSE NEIGHBOUR: 'it returns false'. Refute it at one input. -/
def trieEachWrong : ChangeSpec := { name := "trieEach", fn := fun _ => fun
  | [d1, d2, d3] => { results := [.lit (.bool false)], args := [d1, d2, d3] }
  | _ => none }
def TrieEachWrongFalsely : Prop := trieEachRow.holds Try.pinned (OpenSpec.ofChange trieEachWrong)

/-- 'souffleurlaw13.TrieSame': WHATEVER THE INPUT: true; the input reads as it did. -/
def trieSameSpec : ChangeSpec := { name := "trieSame", fn := fun _ => fun
  | [d1, d2] => { results := [.lit (.bool true)], args := [d1, d2] }
  | _ => none }
def trieSameRow : OpenClaim := { program := "ytkpfendodmfeoaa", sum := "8ecff873f640add7ccdfd61478866028e5ff85eeae564ddfc40ea07ccfa1e79f", func := "souffleur/souffleurlaw13.TrieSame", spec := "trieSame", inPlace := ["slices.overlaps[*souffleur/trie.node[int]]"], unfollowed := true, recurses := true, apart := false }
def TrieSameSaid : Prop := trieSameRow.holds Try.pinned (OpenSpec.ofChange trieSameSpec)

/-- ITS FALSE NEIGHBOUR: 'it returns false'. Refute it at one input. -/
def trieSameWrong : ChangeSpec := { name := "trieSame", fn := fun _ => fun
  | [d1, d2] => { results := [.lit (.bool false)], args := [d1, d2] }
  | _ => none }
def TrieSameWrongFalsely : Prop := trieSameRow.holds Try.pinned (OpenSpec.ofChange trieSameWrong)

/- THE SECOND FORM. 'bulk': how many values and letters a reading holds, each counted each time it is reached (what is shared counts as often as it is met; a slice's spare places count too). A statement '..UptoSaid' is the law's where the arguments, and the package variables that the reading takes, are together of bulk at most 1048576: NARROWER than '..Said'. Prove '..Said' where nothing that the law and all that it calls make is longer than what came in: it says more and counts as full. Else prove '..UptoSaid'. A law counts once. -/
mutual
def uptoBulk {H : Type} : DataW H → Nat
  | .lit (.string bytes) => bytes.length + 1
  | .lit _ => 1
  | .nil => 1
  | .ptr d => uptoBulk d + 1
  | .slice elems spare => uptoBulkAll elems + uptoBulkAll spare + 1
  | .agg parts => uptoBulkAll parts + 1
  | .iface _ d => uptoBulk d + 1
  | .map entries => uptoBulkEntries entries + 1
  | .held _ => 1
def uptoBulkAll {H : Type} : List (DataW H) → Nat
  | [] => 0
  | d :: r => uptoBulk d + uptoBulkAll r
def uptoBulkEntries {H : Type} : List (Lit × DataW H) → Nat
  | [] => 0
  | x :: r => uptoBulkEntry x + uptoBulkEntries r
def uptoBulkEntry {H : Type} : Lit × DataW H → Nat
  | (.string bytes, d) => bytes.length + uptoBulk d + 1
  | (_, d) => uptoBulk d + 1
 end
def uptoSmall : (H : Type) → List (DataW H) → Bool := fun _ ds => decide (uptoBulkAll ds ≤ 1048576)
def OpenSpec.upto (s : _root_.Go.ChangeSpec) : _root_.Go.OpenSpec := { _root_.Go.OpenSpec.ofChange s with cond := some uptoSmall }

/-- 'souffleurlaw13.TrieOrder', WHERE WHAT IT READS IS OF BULK AT MOST 1048576: true; the input reads as it did. -/
def trieOrderUptoRow : OpenClaim := { program := "ytkpfendodmfeoaa", sum := "8ecff873f640add7ccdfd61478866028e5ff85eeae564ddfc40ea07ccfa1e79f", func := "souffleur/souffleurlaw13.TrieOrder", spec := "trieOrder", inPlace := ["slices.overlaps[*souffleur/trie.node[int]]"], unfollowed := true, recurses := true, apart := false, narrowed := true }
def TrieOrderUptoSaid : Prop := trieOrderUptoRow.holds Try.pinned (OpenSpec.upto trieOrderSpec)

/-- 'souffleurlaw13.TrieAll', WHERE WHAT IT READS IS OF BULK AT MOST 1048576: true; the input reads as it did. -/
def trieAllUptoRow : OpenClaim := { program := "ytkpfendodmfeoaa", sum := "8ecff873f640add7ccdfd61478866028e5ff85eeae564ddfc40ea07ccfa1e79f", func := "souffleur/souffleurlaw13.TrieAll", spec := "trieAll", inPlace := ["slices.overlaps[*souffleur/trie.node[int]]"], unfollowed := true, recurses := true, apart := false, narrowed := true }
def TrieAllUptoSaid : Prop := trieAllUptoRow.holds Try.pinned (OpenSpec.upto trieAllSpec)

/-- 'souffleurlaw13.TrieUnder', WHERE WHAT IT READS IS OF BULK AT MOST 1048576: true; the input reads as it did. -/
def trieUnderUptoRow : OpenClaim := { program := "ytkpfendodmfeoaa", sum := "8ecff873f640add7ccdfd61478866028e5ff85eeae564ddfc40ea07ccfa1e79f", func := "souffleur/souffleurlaw13.TrieUnder", spec := "trieUnder", inPlace := ["slices.overlaps[*souffleur/trie.node[int]]"], unfollowed := true, recurses := true, apart := false, narrowed := true }
def TrieUnderUptoSaid : Prop := trieUnderUptoRow.holds Try.pinned (OpenSpec.upto trieUnderSpec)

/-- 'souffleurlaw13.TrieFinds', WHERE WHAT IT READS IS OF BULK AT MOST 1048576: true; the input reads as it did. -/
def trieFindsUptoRow : OpenClaim := { program := "ytkpfendodmfeoaa", sum := "8ecff873f640add7ccdfd61478866028e5ff85eeae564ddfc40ea07ccfa1e79f", func := "souffleur/souffleurlaw13.TrieFinds", spec := "trieFinds", inPlace := ["slices.overlaps[*souffleur/trie.node[int]]"], unfollowed := true, recurses := true, apart := false, narrowed := true }
def TrieFindsUptoSaid : Prop := trieFindsUptoRow.holds Try.pinned (OpenSpec.upto trieFindsSpec)

/-- 'souffleurlaw13.TrieBack', WHERE WHAT IT READS IS OF BULK AT MOST 1048576: true; the input reads as it did. -/
def trieBackUptoRow : OpenClaim := { program := "ytkpfendodmfeoaa", sum := "8ecff873f640add7ccdfd61478866028e5ff85eeae564ddfc40ea07ccfa1e79f", func := "souffleur/souffleurlaw13.TrieBack", spec := "trieBack", inPlace := ["slices.overlaps[*souffleur/trie.node[int]]"], unfollowed := true, recurses := true, apart := false, narrowed := true }
def TrieBackUptoSaid : Prop := trieBackUptoRow.holds Try.pinned (OpenSpec.upto trieBackSpec)

/-- 'souffleurlaw13.TrieEach', WHERE WHAT IT READS IS OF BULK AT MOST 1048576: true; the input reads as it did. -/
def trieEachUptoRow : OpenClaim := { program := "ytkpfendodmfeoaa", sum := "8ecff873f640add7ccdfd61478866028e5ff85eeae564ddfc40ea07ccfa1e79f", func := "souffleur/souffleurlaw13.TrieEach", spec := "trieEach", inPlace := ["slices.overlaps[*souffleur/trie.node[int]]"], unfollowed := true, recurses := true, apart := false, narrowed := true }
def TrieEachUptoSaid : Prop := trieEachUptoRow.holds Try.pinned (OpenSpec.upto trieEachSpec)

/-- 'souffleurlaw13.TrieSame', WHERE WHAT IT READS IS OF BULK AT MOST 1048576: true; the input reads as it did. -/
def trieSameUptoRow : OpenClaim := { program := "ytkpfendodmfeoaa", sum := "8ecff873f640add7ccdfd61478866028e5ff85eeae564ddfc40ea07ccfa1e79f", func := "souffleur/souffleurlaw13.TrieSame", spec := "trieSame", inPlace := ["slices.overlaps[*souffleur/trie.node[int]]"], unfollowed := true, recurses := true, apart := false, narrowed := true }
def TrieSameUptoSaid : Prop := trieSameUptoRow.holds Try.pinned (OpenSpec.upto trieSameSpec)

end Rows
end Go.Proofs.Ytkpfendodmfeoaa
