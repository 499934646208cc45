import Derived.RangeFuncNested
import Derived.RangeFuncBound
import Derived.RangeFuncCalls
import Derived.RangeFuncLeaves
import Derived.Shelf.Abstract
import Derived.Shelf.RegionOpen
import Derived.WalkKit
import Derived.OwnWalkIn
import Derived.TacticsInMore
import Derived.LoopNIn
import Derived.LoopIn
import Derived.Test.YtfegchonclhjjaaWc
import Derived.Test.YtfegchonclhjjaaWo3
import Derived.Test.YtfegchonclhjjaaSg2
namespace Go.Proofs.Ytfegchonclhjjaa
open Go.RowKit Go.Shelf
attribute [local go_sem] Oper.semAt_some
/-- What a loop's body keeps of what Each's closure reads. -/
def KpE (Bs : Nat) (W W' : World) : Prop := KeepsWalks W W' ∧ W'.heap[Bs]? = W.heap[Bs]?
theorem KpE.t {Bs : Nat} {A B C : World} (h : KpE Bs A B) (k : KpE Bs B C) : KpE Bs A C := ⟨h.1.trans k.1, k.2.trans h.2⟩
theorem KpE.b {Bs : Nat} {w : World} (hn : Bs < w.heap.size) (W : World) (l : Nat) (o o' : Obj) (hl : w.heap.size ≤ l) (h : W.heap[l]? = some o) (_ : o.isCells = false) (hw : o.isWalk = false) : KpE Bs W (W.putObj l o') := by
  refine ⟨⟨?_, fun k o2 hk ho2 => ?_⟩, ?_⟩
  · exact (grownBy_putObj' W l o').size
  · rw [World.putObj_heap_other (by intro e; subst e; rw [h] at hk; cases hk; rw [hw] at ho2; cases ho2)]; exact hk
  · exact World.putObj_heap_other (by omega)
/-- One cluster that is told: where it begins, its bytes. -/
abbrev Cl (L : Nat) := { x : Nat × Bs // x.1 + x.2.length ≤ L }
def encs {L : Nat} (x : Cl L) : Array Value := #[n64 x.1.1, .string ⟨x.1.2.toArray⟩]
/-- What has been told at pos. -/
def Told (l : Bs) (pos frm : Nat) (pre : List (Nat × Bs)) : Prop :=
  (pos = 0 ∧ frm = 0 ∧ pre = []) ∨ (frm < pos ∧ pos ≤ l.length ∧ pre ++ ats frm (cl ((l.take pos).drop frm) (sg (l.drop pos))) = ats 0 (cuts l))
theorem extract_eq (l : Bs) (a b : Nat) : (⟨l.toArray⟩ : ByteArray).extract a b = ⟨((l.take b).drop a).toArray⟩ := by
  apply ByteArray.ext
  simp [ByteArray.data_extract, List.drop_take]
theorem Told.skip {l : Bs} {pos frm : Nat} {pre : List (Nat × Bs)} (h : Told l pos frm pre) (hp : pos < l.length) (hz : pos = 0 ∨ wof ((dec (l.drop pos)).1 : Int) = 0) :
    Told l (pos + (dec (l.drop pos)).2) frm pre := by
  have hne : l.drop pos ≠ [] := List.length_pos_iff.1 (by simp; omega)
  have h1 := dec_pos (l.drop pos)
  have h2 := dec_le hne
  rw [List.length_drop] at h2
  right
  rcases h with ⟨rfl, rfl, rfl⟩ | ⟨a, b, c⟩
  · refine ⟨by omega, by omega, ?_⟩
    rw [List.drop_zero] at hne ⊢
    rw [cuts_cons hne]
    simp
  · have hz' : wof ((dec (l.drop pos)).1 : Int) = 0 := by
      rcases hz with e | e
      · omega
      · exact e
    refine ⟨by omega, by omega, ?_⟩
    rw [← c, sg_cons hne, cl]
    have hw : w0 ((l.drop pos).take (dec (l.drop pos)).2) = true := by
      unfold w0
      rw [dec_takeGe hne (Nat.le_refl _), hz']; rfl
    rw [if_pos hw, List.drop_drop]
    congr 3
    have e1 : l.take (pos + (dec (l.drop pos)).2) = l.take pos ++ (l.drop pos).take (dec (l.drop pos)).2 := List.take_add
    rw [e1, List.drop_append_of_le_length (by rw [List.length_take]; omega)]
theorem Told.tell {l : Bs} {pos frm : Nat} {pre : List (Nat × Bs)} (h : Told l pos frm pre) (hp : pos < l.length) (h0 : 0 < pos) (hz : wof ((dec (l.drop pos)).1 : Int) ≠ 0) :
    pre.length < (cuts l).length ∧ (pre ++ [(frm, (l.take pos).drop frm)]) <+: ats 0 (cuts l) ∧ frm + ((l.take pos).drop frm).length ≤ l.length ∧ Told l (pos + (dec (l.drop pos)).2) pos (pre ++ [(frm, (l.take pos).drop frm)]) := by
  have hne : l.drop pos ≠ [] := List.length_pos_iff.1 (by simp; omega)
  have h1 := dec_pos (l.drop pos)
  have h2 := dec_le hne
  rw [List.length_drop] at h2
  rcases h with ⟨rfl, rfl, rfl⟩ | ⟨a, b, c⟩
  · omega
  · have hw : w0 ((l.drop pos).take (dec (l.drop pos)).2) = false := by
      unfold w0
      rw [dec_takeGe hne (Nat.le_refl _)]; simpa using hz
    rw [sg_cons hne, cl, if_neg (by rw [hw]; simp), List.drop_drop] at c
    have hfl : frm + ((l.take pos).drop frm).length = pos := by simp; omega
    rw [ats, hfl] at c
    have hlen := congrArg List.length c
    rw [ats_len, List.length_append, List.length_cons] at hlen
    refine ⟨by omega, ⟨_, by rw [← c, List.append_assoc, List.singleton_append]⟩, by omega, .inr ⟨by omega, by omega, ?_⟩⟩
    rw [← c]
    have e1 : (l.take (pos + (dec (l.drop pos)).2)).drop pos = (l.drop pos).take (dec (l.drop pos)).2 := by
      rw [List.drop_take]; congr 1; omega
    rw [e1]; simp
theorem Told.last {l : Bs} {pos frm : Nat} {pre : List (Nat × Bs)} (h : Told l pos frm pre) (hp : l.length ≤ pos) (h0 : 0 < l.length) :
    frm < l.length ∧ pre.length < (cuts l).length ∧ pre ++ [(frm, l.drop frm)] = ats 0 (cuts l) := by
  rcases h with ⟨rfl, rfl, rfl⟩ | ⟨a, b, c⟩
  · omega
  · have e : pos = l.length := by omega
    subst e
    rw [List.drop_length, sg_nil, cl, List.take_length, ats, ats] at c
    have hlen := congrArg List.length c
    rw [ats_len, List.length_append, List.length_singleton] at hlen
    exact ⟨a, by omega, c⟩
end Go.Proofs.Ytfegchonclhjjaa
