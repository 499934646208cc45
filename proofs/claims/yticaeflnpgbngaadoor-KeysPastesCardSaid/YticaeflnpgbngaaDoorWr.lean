import Derived.Test.YticaeflnpgbngaaDoorWo
import Derived.Test.YticaeflnpgbngaaDoorWc
import Derived.Test.YticaeflnpgbngaaDoorCv
import Derived.Test.YticaeflnpgbngaaDoorSr3
import Derived.Test.YticaeflnpgbngaaDoorWe
import Derived.Test.YticaeflnpgbngaaDoorIn2
import Derived.Test.YticaeflnpgbngaaDoorWf
import Derived.Test.YticaeflnpgbngaaDoorMem
import Derived.Deep.RegionHeld3
namespace Go.Proofs.YticaeflnpgbngaaDoor
open Go.RowKit
/-- A cell of a row of the call's own, and what stands behind a store into it. -/
theorem Row.set {w : World} {B : Nat} {e : TypeId} {A : Option Addr} {c n : Nat} {xs : List Value} (h : Row w B e 1 (.slice A n c) n xs) {k : Nat} (hk : k < n) :
    ∃ g off, A = some ⟨g, off, none⟩ ∧ B ≤ g ∧ g < w.heap.size ∧ w.cell? ⟨g, off + k, none⟩ = xs[k]? ∧ w.frozen? ⟨g, off + k, none⟩ = false ∧ ∀ u, Row (w.setCell ⟨g, off + k, none⟩ u) B e 1 (.slice A n c) n (xs.set k u) := by
  obtain ⟨hl, h2⟩ := h
  rcases h2 with ⟨hv, rfl⟩ | ⟨g, off, cap, cur, hv, hb, hg, hn, hm, hs, ht⟩
  · omega
  · cases hv
    refine ⟨g, off, rfl, hb, lt_of_heap hg, ?_, frozen_of_row w g _ cur e hg, fun u => ⟨by simp [hl], .inr ⟨g, off, c, _, rfl, hb, heap_setCell_same w g (off + k) cur e u hg, hn, hm, by simpa using hs, ?_⟩⟩⟩
    · rw [cell_of_row w g (off + k) cur e (0, 0) hg, ← ht, List.getElem?_take, if_pos (by omega), List.getElem?_drop]
      simp
    · rw [← ht, Array.toList_setIfInBounds, List.drop_set, if_neg (by omega), Nat.add_sub_cancel_left, List.take_set]
/-- Where ref.Cut stands. -/
def CutInv (l : Bs) (pos : Nat) (cs : List Bs) : Prop :=
  pos ≤ l.length ∧ ((cs = [] ∧ pos = 0) ∨ ∃ init cur, cs = init ++ [cur] ∧ init ++ cl cur (sg (l.drop pos)) = cuts l)
theorem CutInv.new {l : Bs} {pos : Nat} {cs : List Bs} (h : CutInv l pos cs) (hp : pos < l.length) (hz : cs = [] ∨ wof ((dec (l.drop pos)).1 : Int) ≠ 0) :
    CutInv l (pos + (dec (l.drop pos)).2) (cs ++ [(l.drop pos).take (dec (l.drop pos)).2]) := by
  have hne : l.drop pos ≠ [] := List.length_pos_iff.1 (by simp; omega)
  have h2 := dec_le hne
  rw [List.length_drop] at h2
  refine ⟨by omega, .inr ⟨cs, _, rfl, ?_⟩⟩
  rcases h.2 with ⟨rfl, rfl⟩ | ⟨init, cur, rfl, e⟩
  · rw [List.drop_zero] at hne ⊢
    rw [cuts_cons hne]; simp
  · have hw : w0 ((l.drop pos).take (dec (l.drop pos)).2) = false := by
      unfold w0
      rw [dec_takeGe hne (Nat.le_refl _)]
      rcases hz with hz | hz
      · simp at hz
      · simpa using hz
    rw [← e, sg_cons hne, cl, if_neg (by rw [hw]; simp), List.drop_drop]
    simp
theorem CutInv.more {l : Bs} {pos : Nat} {init : List Bs} {cur : Bs} (h : CutInv l pos (init ++ [cur])) (hp : pos < l.length) (hz : wof ((dec (l.drop pos)).1 : Int) = 0) :
    CutInv l (pos + (dec (l.drop pos)).2) (init ++ [cur ++ (l.drop pos).take (dec (l.drop pos)).2]) := by
  have hne : l.drop pos ≠ [] := List.length_pos_iff.1 (by simp; omega)
  have h2 := dec_le hne
  rw [List.length_drop] at h2
  refine ⟨by omega, .inr ⟨init, _, rfl, ?_⟩⟩
  rcases h.2 with ⟨e, _⟩ | ⟨init', cur', e1, e⟩
  · simp at e
  · obtain ⟨rfl, e2⟩ := List.append_inj' e1 rfl
    cases e2
    have hw : w0 ((l.drop pos).take (dec (l.drop pos)).2) = true := by
      unfold w0
      rw [dec_takeGe hne (Nat.le_refl _), hz]; rfl
    rw [← e, sg_cons hne, cl, if_pos hw, List.drop_drop]
theorem CutInv.cur_le {l : Bs} {pos : Nat} {init : List Bs} {cur : Bs} (h : CutInv l pos (init ++ [cur])) : cur.length ≤ l.length := by
  rcases h.2 with ⟨e, _⟩ | ⟨init', cur', e1, e⟩
  · simp at e
  · obtain ⟨rfl, e2⟩ := List.append_inj' e1 rfl
    cases e2
    have := congrArg (fun x => List.length (List.flatten x)) e
    rw [List.flatten_append, cl_flat, cuts_flat, List.length_append, List.length_append] at this
    omega
theorem CutInv.done {l : Bs} {cs : List Bs} (h : CutInv l l.length cs) : cs = cuts l := by
  rcases h.2 with ⟨rfl, e⟩ | ⟨init, cur, rfl, e⟩
  · have : l = [] := List.eq_nil_of_length_eq_zero e
    subst this; rw [cuts_nil]
  · rw [← e, List.drop_length, sg_nil]; rfl
end Go.Proofs.YticaeflnpgbngaaDoor
namespace Go.Proofs.YticaeflnpgbngaaDoor
open Go.RowKit
end Go.Proofs.YticaeflnpgbngaaDoor
namespace Go.Proofs.YticaeflnpgbngaaDoor
open Go.RowKit
end Go.Proofs.YticaeflnpgbngaaDoor
namespace Go.Proofs.YticaeflnpgbngaaDoor
open Go.RowKit
theorem row_str (w : World) (A : Option Addr) (l : Bs) (c : Nat) (h : RdB w A l) : (convert 25 9 (.slice A l.length c)).run Tryd.prog w = .ok (.string ⟨l.toArray⟩) w :=
  run_str (P := Tryd.prog) w _ 5 _ Tryd.underlying25 Tryd.underlying5 Tryd.underlying9 A l _ c rfl h
theorem rb_wrong : rb 65533 = wrongB := by decide
end Go.Proofs.YticaeflnpgbngaaDoor
namespace Go.Proofs.YticaeflnpgbngaaDoor
open Go.RowKit
theorem bnds_snoc (j : Nat) (cs : List Bs) (c : Bs) : bnds j (cs ++ [c]) = bnds j cs ++ [j + cs.flatten.length + c.length] := by
  induction cs generalizing j with
  | nil => simp [bnds]
  | cons d ds ih => simp [bnds, ih, Nat.add_assoc]
theorem bnds_last (j : Nat) (cs : List Bs) : (bnds j cs)[cs.length]? = some (j + cs.flatten.length) := by
  rw [bnds_ats, List.getElem?_append_right (by simp [ats_len])]; simp [ats_len]
end Go.Proofs.YticaeflnpgbngaaDoor
namespace Go.Proofs.YticaeflnpgbngaaDoor
open Go.RowKit
theorem mem_flat {cs : List Bs} {c : Bs} (h : c ∈ cs) : c.length ≤ cs.flatten.length := by
  induction cs with
  | nil => cases h
  | cons d ds ih =>
    rw [List.flatten_cons, List.length_append]
    rcases List.mem_cons.1 h with e | e
    · rw [e]; omega
    · have := ih e; omega
theorem mem_cuts {l c : Bs} (h : c ∈ cuts l) : c.length ≤ l.length := by
  have := mem_flat h
  rwa [cuts_flat] at this
end Go.Proofs.YticaeflnpgbngaaDoor
