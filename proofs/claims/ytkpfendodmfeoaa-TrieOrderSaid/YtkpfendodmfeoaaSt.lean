import Derived.Test.YtkpfendodmfeoaaMem
import Derived.Test.YtkpfendodmfeoaaProg
namespace Go.Proofs.Ytkpfendodmfeoaa
open Go.RowKit
/-! Strings as lists of bytes. -/
abbrev str (b : Bs) : Value := .string ⟨b.toArray⟩
theorem Try.info_str : (Try.prog.info? 9).map (fun i => (i.zero, i.size, i.bytes)) = some (some (.string ByteArray.empty), 1, 16) := by kernel_rfl
theorem str_of (l : Bs) : (⟨l.toArray⟩ : ByteArray).size = l.length := by simp [ByteArray.size]
def sizeOfS : Value → Nat | .string s => s.size | _ => 0
theorem lit_of {a : ByteArray} {c : Bs} (h : a = ⟨c.toArray⟩) : str c = .string a := by rw [h]
/-- A test of strings as the walk spells it. -/
theorem str_beq {p q : ByteArray} {a b : Bs} (hp : p = ⟨a.toArray⟩) (hq : q = ⟨b.toArray⟩) : (p.toList == q.toList) = decide (a = b) := by
  subst hp; subst hq
  rw [ByteArray.toList_eq, ByteArray.toList_eq, Bool.eq_iff_iff]
  simp
theorem str_ne {s : ByteArray} {c : Bs} (hs : s = ⟨c.toArray⟩) (h : c ≠ []) : s.toList.isEmpty = false := by
  rw [hs, ByteArray.toList_eq]
  cases c with
  | nil => exact absurd rfl h
  | cons x t => rfl
theorem extract_eq (l : Bs) (a b : Nat) : (⟨l.toArray⟩ : ByteArray).extract a b = ⟨((l.take b).drop a).toArray⟩ := by
  apply ByteArray.ext
  simp [ByteArray.data_extract, List.drop_take]
theorem add_str {a b : ByteArray} {l m : Bs} (ha : a = ⟨l.toArray⟩) (hb : b = ⟨m.toArray⟩) (h : l.length + m.length ≤ 4294967296) (W : World) : (Op.stringOp .add a b).run Try.prog W = .ok (.string ⟨(l ++ m).toArray⟩) W := by
  subst ha; subst hb
  rw [run_string_add_sum (P := Try.prog) W _ _ (by rw [str_of, str_of]; omega), ByteArray.mk_append_mk]
end Go.Proofs.Ytkpfendodmfeoaa
