import Derived.Test.YticaeflnpgbngaaDoorIn2
import Derived.RangeFuncNested
import Derived.RangeFuncBound
import Derived.RangeFuncCalls
import Derived.RangeFuncLeaves
import Derived.Shelf.Abstract
import Derived.Shelf.RegionOpen
import Derived.WalkKit
import Derived.OwnWalkIn
import Derived.TacticsInMore
import Derived.LoopNIn
import Derived.LoopIn
import Derived.Test.YticaeflnpgbngaaDoorWc
import Derived.Test.YticaeflnpgbngaaDoorWo
import Derived.Test.YticaeflnpgbngaaDoorSg1
import Derived.Maps.AppendAt
namespace Go.Proofs.YticaeflnpgbngaaDoor
open Go.RowKit Go.Shelf
attribute [local go_sem] Oper.semAt_some
/-- What a loop's body keeps of what Each's closure reads. -/
def KpE (Bs : Nat) (W W' : World) : Prop := KeepsWalks W W' ∧ W'.heap[Bs]? = W.heap[Bs]?
theorem KpE.t {Bs : Nat} {A B C : World} (h : KpE Bs A B) (k : KpE Bs B C) : KpE Bs A C := ⟨h.1.trans k.1, k.2.trans h.2⟩
theorem KpE.b {Bs : Nat} {w : World} (hn : Bs < w.heap.size) (W : World) (l : Nat) (o o' : Obj) (hl : w.heap.size ≤ l) (h : W.heap[l]? = some o) (_ : o.isCells = false) (hw : o.isWalk = false) : KpE Bs W (W.putObj l o') := by
  refine ⟨⟨?_, fun k o2 hk ho2 => ?_⟩, ?_⟩
  · exact (grownBy_putObj' W l o').size
  · rw [World.putObj_heap_other (by intro e; subst e; rw [h] at hk; cases hk; rw [hw] at ho2; cases ho2)]; exact hk
  · exact World.putObj_heap_other (by omega)
/-- One cluster that is told: where it begins, its bytes. -/
abbrev Cl (L : Nat) := { x : Nat × Bs // x.1 + x.2.length ≤ L }
def encs {L : Nat} (x : Cl L) : Array Value := #[n64 x.1.1, .string ⟨x.1.2.toArray⟩]
/-- What has been told at pos. -/
def Told (l : Bs) (pos frm : Nat) (pre : List (Nat × Bs)) : Prop :=
  (pos = 0 ∧ frm = 0 ∧ pre = []) ∨ (frm < pos ∧ pos ≤ l.length ∧ pre ++ ats frm (cl ((l.take pos).drop frm) (sg (l.drop pos))) = ats 0 (cuts l))
theorem Told.skip {l : Bs} {pos frm : Nat} {pre : List (Nat × Bs)} (h : Told l pos frm pre) (hp : pos < l.length) (hz : pos = 0 ∨ wof ((dec (l.drop pos)).1 : Int) = 0) :
    Told l (pos + (dec (l.drop pos)).2) frm pre := by
  have hne : l.drop pos ≠ [] := List.length_pos_iff.1 (by simp; omega)
  have h1 := dec_pos (l.drop pos)
  have h2 := dec_le hne
  rw [List.length_drop] at h2
  right
  rcases h with ⟨rfl, rfl, rfl⟩ | ⟨a, b, c⟩
  · refine ⟨by omega, by omega, ?_⟩
    rw [List.drop_zero] at hne ⊢
    rw [cuts_cons hne]
    simp
  · have hz' : wof ((dec (l.drop pos)).1 : Int) = 0 := by
      rcases hz with e | e
      · omega
      · exact e
    refine ⟨by omega, by omega, ?_⟩
    rw [← c, sg_cons hne, cl]
    have hw : w0 ((l.drop pos).take (dec (l.drop pos)).2) = true := by
      unfold w0
      rw [dec_takeGe hne (Nat.le_refl _), hz']; rfl
    rw [if_pos hw, List.drop_drop]
    congr 3
    have e1 : l.take (pos + (dec (l.drop pos)).2) = l.take pos ++ (l.drop pos).take (dec (l.drop pos)).2 := List.take_add
    rw [e1, List.drop_append_of_le_length (by rw [List.length_take]; omega)]
theorem Told.tell {l : Bs} {pos frm : Nat} {pre : List (Nat × Bs)} (h : Told l pos frm pre) (hp : pos < l.length) (h0 : 0 < pos) (hz : wof ((dec (l.drop pos)).1 : Int) ≠ 0) :
    pre.length < (cuts l).length ∧ (pre ++ [(frm, (l.take pos).drop frm)]) <+: ats 0 (cuts l) ∧ frm + ((l.take pos).drop frm).length ≤ l.length ∧ Told l (pos + (dec (l.drop pos)).2) pos (pre ++ [(frm, (l.take pos).drop frm)]) := by
  have hne : l.drop pos ≠ [] := List.length_pos_iff.1 (by simp; omega)
  have h1 := dec_pos (l.drop pos)
  have h2 := dec_le hne
  rw [List.length_drop] at h2
  rcases h with ⟨rfl, rfl, rfl⟩ | ⟨a, b, c⟩
  · omega
  · have hw : w0 ((l.drop pos).take (dec (l.drop pos)).2) = false := by
      unfold w0
      rw [dec_takeGe hne (Nat.le_refl _)]; simpa using hz
    rw [sg_cons hne, cl, if_neg (by rw [hw]; simp), List.drop_drop] at c
    have hfl : frm + ((l.take pos).drop frm).length = pos := by simp; omega
    rw [ats, hfl] at c
    have hlen := congrArg List.length c
    rw [ats_len, List.length_append, List.length_cons] at hlen
    refine ⟨by omega, ⟨_, by rw [← c, List.append_assoc, List.singleton_append]⟩, by omega, .inr ⟨by omega, by omega, ?_⟩⟩
    rw [← c]
    have e1 : (l.take (pos + (dec (l.drop pos)).2)).drop pos = (l.drop pos).take (dec (l.drop pos)).2 := by
      rw [List.drop_take]; congr 1; omega
    rw [e1]; simp
theorem Told.last {l : Bs} {pos frm : Nat} {pre : List (Nat × Bs)} (h : Told l pos frm pre) (hp : l.length ≤ pos) (h0 : 0 < l.length) :
    frm < l.length ∧ pre.length < (cuts l).length ∧ pre ++ [(frm, l.drop frm)] = ats 0 (cuts l) := by
  rcases h with ⟨rfl, rfl, rfl⟩ | ⟨a, b, c⟩
  · omega
  · have e : pos = l.length := by omega
    subst e
    rw [List.drop_length, sg_nil, cl, List.take_length, ats, ats] at c
    have hlen := congrArg List.length c
    rw [ats_len, List.length_append, List.length_singleton] at hlen
    exact ⟨a, by omega, c⟩
end Go.Proofs.YticaeflnpgbngaaDoor
namespace Go.Proofs.YticaeflnpgbngaaDoor
open Go.RowKit Go.Shelf
attribute [local go_sem] Oper.semAt_some
def val {L : Nat} (pre : List (Cl L)) : List (Nat × Bs) := pre.map (·.1)
def EachInv (l : Bs) (s : ByteArray) (Bx : Nat) (J : List (Cl l.length) → World → Prop) (W : World) (u3 : Value) (wr : World) : Prop :=
  ∃ (pos frm : Nat) (pre : List (Cl l.length)), u3 = .int .i64 frm ∧ wr.heap[W.heap.size]? = some (.stringIter s pos) ∧ Boxed wr Bx 9 (.string s) ∧ W.heap.size < wr.heap.size ∧ J pre wr ∧ Told l pos frm (val pre)
theorem grown_of_below {w w' : World} (h : Below w.heap.size w w') : w.grownBy w' none := ⟨h.os, h.tape, h.output, h.size, fun k hk _ => h.block k hk⟩
theorem grown_iterAt (w : World) (k : Nat) (s : ByteArray) (p : Nat) : w.grownBy (w.iterAt k s p) (some k) :=
  ⟨rfl, rfl, rfl, by rw [Lib.iterAt_size]; exact Nat.le_refl _, fun i _ hn => Lib.iterAt_other w k i s p (fun e => hn (by rw [e]))⟩
theorem abides_later {β : Type} {B : Nat} {J : β → World → Prop} (h : AbidesFrom B J) {x : β} {w w' : World} (hj : J x w) (hb : Below w.heap.size w w') : J x w' := h _ _ _ none hj (grown_of_below hb) (by simp)
theorem abides_iterAt {β : Type} {B : Nat} {J : β → World → Prop} (h : AbidesFrom B J) {x : β} {w : World} (hj : J x w) {k : Nat} {s : ByteArray} {p : Nat} (hk : B ≤ k) (hit : w.heap[k]? = some (.stringIter s p)) (p' : Nat) : J x (w.iterAt k s p') :=
  h _ _ _ (some k) hj (grown_iterAt w k s p') (fun r e => by cases e; exact ⟨hk, _, hit, rfl⟩)
theorem boxed_iterAt {w : World} {b : Nat} {t : TypeId} {v : Value} (h : Boxed w b t v) {k : Nat} {s0 : ByteArray} {p0 : Nat} (hit : w.heap[k]? = some (.stringIter s0 p0)) (s : ByteArray) (p : Nat) : Boxed (w.iterAt k s p) b t v :=
  h.kept (grown_iterAt w k s p) (by intro e; cases e; unfold Boxed at h; rw [hit] at h; cases h)
end Go.Proofs.YticaeflnpgbngaaDoor
namespace Go.Proofs.YticaeflnpgbngaaDoor
open Go.RowKit Go.Shelf
attribute [local go_sem] Oper.semAt_some
theorem Row.of_owns {w : World} {B : Nat} {e : TypeId} {sz : Nat} {v : Value} {n : Nat} {xs : List Value} (h : w.ownsRow B e sz v n xs) : Row w B e sz v n xs := by
  refine ⟨h.1, ?_⟩
  rcases h.2 with ⟨rfl, hn⟩ | ⟨g, cap, cur, rfl, hb, hg, h1, h2, h3, h4⟩
  · exact .inl ⟨rfl, hn⟩
  · exact .inr ⟨g, 0, cap, cur, rfl, hb, hg, h1, h2, by omega, by rw [List.drop_zero]; exact h4⟩
theorem keepsWalks_of {W W' : World} (h : KeepsOthers W W') : KeepsWalks W W' := ⟨h.size, fun k o hk ho => h.same k o hk (Obj.not_cells_of_walk ho)⟩
/-- 'out = append(out, ..)' where the row's blocks lie from R on, and the box at B. -/
theorem appended2 {W w1 : World} {R B : Nat} {t e : TypeId} {size : Nat} {v v' : Value} {k m : Nat} {xs ys : List Value} {tmp : Obj}
    (hv : Boxed W B t v) (hte : t ≠ e) (hrow : W.ownsRow R e size v k xs) (hR : R ≤ W.heap.size)
    (hown' : w1.ownsRow R e size v' m ys) (hgrow : (W.alloc tmp).grownBy w1 v.ownBlock) :
    Boxed w1 B t v ∧ Boxed (w1.setCell ⟨B, 0, none⟩ v') B t v' ∧ (w1.setCell ⟨B, 0, none⟩ v').ownsRow R e size v' m ys ∧ KeepsOthers W (w1.setCell ⟨B, 0, none⟩ v') ∧
      (∀ n₀, n₀ ≤ R → n₀ ≤ B → Below n₀ W (w1.setCell ⟨B, 0, none⟩ v')) ∧ (∀ j, j < R → j ≠ B → (w1.setCell ⟨B, 0, none⟩ v').heap[j]? = W.heap[j]?) := by
  have hv1 : Boxed w1 B t v := (hv.alloc tmp).kept hgrow (hv.not_row hte hrow)
  have hrb : ∀ j, v.ownBlock = some j → R ≤ j := fun j ej => by
    rcases hrow.2 with ⟨rfl, _⟩ | ⟨g, cap, cur, rfl, hb, _, _⟩
    · simp [Value.ownBlock] at ej
    · obtain rfl : g = j := by simpa [Value.ownBlock] using ej
      exact hb
  refine ⟨hv1, hv1.set v', hown'.kept (grownBy_setCell' w1 B v') (.inr (hv1.not_row hte hown').symm), ?_, ?_, ?_⟩
  · refine ((KeepsOthers.alloc W tmp).trans (KeepsOthers.of_grownBy hgrow fun j o ej hj => ?_)).trans (KeepsOthers.setCell _ _ _)
    rcases (hrow.alloc tmp).2 with ⟨rfl, _⟩ | ⟨g, cap, cur, rfl, _, hgb, _⟩
    · simp [Value.ownBlock] at ej
    · obtain rfl : g = j := by simpa [Value.ownBlock] using ej
      rw [hgb] at hj; cases hj; rfl
  · intro n₀ h1 h2
    exact (((Below.refl n₀ W).alloc (Nat.le_trans h1 hR) tmp).grown hgrow (by simp; omega) fun j ej => Nat.le_trans h1 (hrb j ej)).setCell (p := ⟨B, 0, none⟩) h2 v'
  · intro j h1 h2
    rw [Below.heap_setCell _ _ _ _ h2, hgrow.block j (by simp; omega) (fun e => by have := hrb j e.symm; omega), Below.heap_alloc _ _ _ (by omega)]
theorem val_str {L : Nat} {ys : List (Cl L)} {k : Nat} {cs : List Bs} (h : val ys = ats k cs) : ys.map (fun x => str x.1.2) = cs.map str := by
  have h2 := congrArg (List.map (fun x : Nat × Bs => x.2)) h
  rw [ats_snd] at h2
  rw [← h2]; simp [val]
end Go.Proofs.YticaeflnpgbngaaDoor
