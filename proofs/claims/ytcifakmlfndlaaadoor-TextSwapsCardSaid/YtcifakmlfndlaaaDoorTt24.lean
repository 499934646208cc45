import Derived.Test.YtcifakmlfndlaaaDoorTt17
import Derived.BigQuiet
namespace Go.Proofs.YtcifakmlfndlaaaDoor
set_option linter.unusedVariables false
set_option linter.unusedSimpArgs false
open Go.RowKit Go.Shelf
/-! Two clusters in each other's places. -/
def swL (cs : List Bs) (j : Nat) : List Bs := (cs.set (j - 1) (cs.getD j [])).set j (cs.getD (j - 1) [])
theorem sw_parts {cs : List Bs} {j : Nat} (h1 : 1 ≤ j) (h2 : j < cs.length) : ∃ p x y r, cs = p ++ x :: y :: r ∧ p.length = j - 1 ∧ swL cs j = p ++ y :: x :: r := by
  have e1 : cs = cs.take (j - 1) ++ cs[j - 1] :: cs[j] :: cs.drop (j + 1) := by
    conv => lhs; rw [← List.take_append_drop (j - 1) cs, List.drop_eq_getElem_cons (show j - 1 < cs.length by omega)]
    rw [show j - 1 + 1 = j by omega, List.drop_eq_getElem_cons h2]
  have hp : (cs.take (j - 1)).length = j - 1 := by rw [List.length_take]; omega
  refine ⟨_, _, _, _, e1, hp, ?_⟩
  have gx : cs.getD (j - 1) [] = cs[j - 1] := by rw [List.getD_eq_getElem?_getD, List.getElem?_eq_getElem (by omega)]; rfl
  have gy : cs.getD j [] = cs[j] := by rw [List.getD_eq_getElem?_getD, List.getElem?_eq_getElem h2]; rfl
  unfold swL
  rw [gx, gy]
  generalize cs[j - 1] = x at *
  generalize cs[j] = y at *
  generalize cs.take (j - 1) = p at *
  generalize cs.drop (j + 1) = r at *
  subst e1
  rw [List.set_append_right _ _ (by omega), List.set_append_right _ _ (by omega), hp, Nat.sub_self, show j - (j - 1) = 1 by omega]
  rfl
theorem swL_flat (S : Bs) {j : Nat} (h1 : 1 ≤ j) (h2 : j < (cuts S).length) :
    (swL (cuts S) j).flatten = swS S (off (cuts S) (j - 1)) (off (cuts S) j) (off (cuts S) (j + 1)) ∧ off (swL (cuts S) j) (j + 1) = off (cuts S) (j + 1) ∧ (swL (cuts S) j).length = (cuts S).length := by
  obtain ⟨p, x, y, r, e, hp, es⟩ := sw_parts h1 h2
  have hS : S = p.flatten ++ (x ++ (y ++ r.flatten)) := by
    have := cuts_flat S
    rw [e] at this
    rw [← this]; simp
  have o1 : off (cuts S) (j - 1) = p.flatten.length := by unfold off; rw [e, ← hp, List.take_left]
  have o2 : off (cuts S) j = p.flatten.length + x.length := by
    have := off_succ (cs := cuts S) (k := j - 1) (c := x) (by rw [e, List.getElem?_append_right (by omega), hp]; simp)
    rw [show j - 1 + 1 = j by omega] at this; omega
  have o3 : off (cuts S) (j + 1) = p.flatten.length + x.length + y.length := by
    have := off_succ (cs := cuts S) (k := j) (c := y) (by rw [e, List.getElem?_append_right (by omega), hp, show j - (j - 1) = 1 by omega]; rfl)
    omega
  have o4 : off (swL (cuts S) j) (j + 1) = p.flatten.length + y.length + x.length := by
    have a1 : off (p ++ y :: x :: r) (j - 1) = p.flatten.length := by unfold off; rw [← hp, List.take_left]
    have a2 := off_succ (cs := p ++ y :: x :: r) (k := j - 1) (c := y) (by rw [List.getElem?_append_right (by omega), hp]; simp)
    have a3 := off_succ (cs := p ++ y :: x :: r) (k := j) (c := x) (by rw [List.getElem?_append_right (by omega), hp, show j - (j - 1) = 1 by omega]; rfl)
    rw [show j - 1 + 1 = j by omega] at a2
    rw [es]; omega
  refine ⟨?_, by omega, by unfold swL; simp⟩
  rw [es, o1, o2, o3]
  unfold swS
  rw [hS]
  have t1 : (p.flatten ++ (x ++ (y ++ r.flatten))).take p.flatten.length = p.flatten := List.take_left
  have t2 : ((p.flatten ++ (x ++ (y ++ r.flatten))).take (p.flatten.length + x.length + y.length)).drop (p.flatten.length + x.length) = y := by
    rw [show p.flatten ++ (x ++ (y ++ r.flatten)) = ((p.flatten ++ x) ++ y) ++ r.flatten by simp, show p.flatten.length + x.length + y.length = ((p.flatten ++ x) ++ y).length by simp only [List.length_append], List.take_left,
      show p.flatten.length + x.length = (p.flatten ++ x).length by simp only [List.length_append], List.drop_left]
  have t3 : ((p.flatten ++ (x ++ (y ++ r.flatten))).take (p.flatten.length + x.length)).drop p.flatten.length = x := by
    rw [show p.flatten ++ (x ++ (y ++ r.flatten)) = (p.flatten ++ x) ++ (y ++ r.flatten) by simp, show p.flatten.length + x.length = (p.flatten ++ x).length by simp only [List.length_append], List.take_left, List.drop_left]
  have t4 : (p.flatten ++ (x ++ (y ++ r.flatten))).drop (p.flatten.length + x.length + y.length) = r.flatten := by
    rw [show p.flatten ++ (x ++ (y ++ r.flatten)) = ((p.flatten ++ x) ++ y) ++ r.flatten by simp, show p.flatten.length + x.length + y.length = ((p.flatten ++ x) ++ y).length by simp only [List.length_append], List.drop_left]
  rw [t1, t2, t3, t4]
  simp
/-- The number of the cluster that is moved, and what comes of it. -/
theorem swV_is (l : Bs) (a : Int) : ∃ k, k ≤ (cuts (mkS l)).length ∧ back (mkS l) a = off (cuts (mkS l)) k ∧
    ((k = 0 ∨ (cuts (mkS l)).length < 2) → swV l a = .tuple #[bufV (mkS l) (back (mkS l) a), .bool false]) ∧
    (1 ≤ k → 2 ≤ (cuts (mkS l)).length → ∀ j, j = (if k = (cuts (mkS l)).length then k - 1 else k) →
      swV l a = .tuple #[bufV (swL (cuts (mkS l)) j).flatten (on (swL (cuts (mkS l)) j).flatten (off (cuts (mkS l)) (j + 1))), .bool true]) := by
  have hS := mkS_mkS l
  obtain ⟨k, hk, hb⟩ := back_is (mkS l) a
  obtain ⟨j, h1, h2, h3⟩ := swAt_is hS hk.1
  refine ⟨k, hk.1, hb, fun h => ?_, fun h4 h5 j' hj' => ?_⟩
  · have : j = 0 := by
      have := hk.1
      split at h3 <;> omega
    unfold swV
    rw [hb, h1, this, off_zero, if_pos rfl]
  · obtain rfl : j' = j := by rw [hj', h3]
    have h6 : 1 ≤ j' ∧ j' < (cuts (mkS l)).length := by
      have := hk.1
      split at h3 <;> omega
    have h7 := off_lt (cuts_nz (mkS l)) (show 0 < j' by omega) (Nat.le_of_lt h6.2)
    obtain ⟨f1, f2, f3⟩ := swL_flat (mkS l) h6.1 h6.2
    have p1 := prevN_off hS (k := j' - 1) (by omega)
    rw [show j' - 1 + 1 = j' by omega] at p1
    unfold swV
    rw [hb, h1, if_neg (by omega), p1, nextN_off hS h6.2, f1]
end Go.Proofs.YtcifakmlfndlaaaDoor
