import Derived.Test.YticaeflnpgbngaaDoorWo
import Derived.Test.YticaeflnpgbngaaDoorCv
import Derived.Test.YticaeflnpgbngaaDoorKa
import Derived.Test.YticaeflnpgbngaaDoorWc
import Derived.Test.YticaeflnpgbngaaDoorWe
import Derived.Test.YticaeflnpgbngaaDoorSr3
namespace Go.Proofs.YticaeflnpgbngaaDoor
open Go.RowKit
/-- What is shown of a cluster that cannot be: bytes ef bf bd. -/
def wrongB : Bs := [0xef, 0xbf, 0xbd]
def wid (c : Bs) : Int := if c = [] then 0 else max (wof ((dec c).1 : Int)) 1
def bad (c : Bs) : Bool := wof ((dec c).1 : Int) == 0 || ctl ((dec c).1 : Int)
def shown (c : Bs) : Bs := if c = [] then [] else if bad c then wrongB else clean c
end Go.Proofs.YticaeflnpgbngaaDoor
namespace Go.Proofs.YticaeflnpgbngaaDoor
open Go.RowKit Go.Shelf
attribute [local go_sem] Oper.semAt_some
theorem keepsOthers_of_below {W w1 : World} (h : Below W.heap.size W w1) : KeepsOthers W w1 := ⟨h.size, fun k _ hk _ => (h.block k (lt_of_heap hk)).trans hk⟩
def wsum (cs : List Bs) : Int := (cs.map wid).sum
theorem wid_le (c : Bs) : 0 ≤ wid c ∧ wid c ≤ 2 := by
  unfold wid
  split
  · omega
  · rcases wof_cases ((dec c).1 : Int) with e | e | e <;> rw [e] <;> omega
theorem wsum_le (cs : List Bs) : 0 ≤ wsum cs ∧ wsum cs ≤ 2 * (cs.length : Int) := by
  induction cs with
  | nil => simp [wsum]
  | cons c cs ih =>
    have := wid_le c
    unfold wsum at ih ⊢
    rw [List.map_cons, List.sum_cons, List.length_cons]
    omega
theorem wsum_snoc (cs : List Bs) (c : Bs) : wsum (cs ++ [c]) = wsum cs + wid c := by simp [wsum]
def cls {L : Nat} (pre : List (Cl L)) : List Bs := pre.map (·.1.2)
theorem cls_val {L : Nat} {ys : List (Cl L)} {k : Nat} {cs : List Bs} (h : val ys = ats k cs) : cls ys = cs := by
  have h2 := congrArg (List.map (fun x : Nat × Bs => x.2)) h
  rw [ats_snd] at h2
  rw [← h2]; simp [val, cls]
end Go.Proofs.YticaeflnpgbngaaDoor
namespace Go.Proofs.YticaeflnpgbngaaDoor
open Go.RowKit Go.Shelf
attribute [local go_sem] Oper.semAt_some
theorem owns_ne {W : World} {R : Nat} {e : TypeId} {sz : Nat} {v : Value} {k : Nat} {xs : List Value} (h : W.ownsRow R e sz v k xs) {D : Nat} {o : Obj} (hD : W.heap[D]? = some o) (ho : o.isCells = false) : v.ownBlock ≠ some D := by
  intro ej
  rcases h.2 with ⟨rfl, _⟩ | ⟨g, cap, cur, rfl, _, hgb, _⟩
  · simp [Value.ownBlock] at ej
  · obtain rfl : g = D := by simpa [Value.ownBlock] using ej
    rw [hgb] at hD; cases hD; cases ho
theorem owns_lt {W : World} {R : Nat} {e : TypeId} {sz : Nat} {v : Value} {k : Nat} {xs : List Value} (h : W.ownsRow R e sz v k xs) {j : Nat} (ej : v.ownBlock = some j) : R ≤ j := by
  rcases h.2 with ⟨rfl, _⟩ | ⟨g, cap, cur, rfl, hb, _, _⟩
  · simp [Value.ownBlock] at ej
  · obtain rfl : g = j := by simpa [Value.ownBlock] using ej
    exact hb
theorem val_n64 {L : Nat} {ys : List (Cl L)} {k : Nat} {cs : List Bs} (h : val ys = ats k cs) : ys.map (fun x => n64 x.1.1) ++ [n64 (k + cs.flatten.length)] = (bnds k cs).map n64 := by
  rw [bnds_ats, List.map_append, ← h]; simp [val]
theorem bnds_len (k : Nat) (cs : List Bs) : (bnds k cs).length = cs.length + 1 := by
  rw [bnds_ats, List.length_append, List.length_map, ats_len]; rfl
end Go.Proofs.YticaeflnpgbngaaDoor
