import Derived.Test.YtpemjhghiccngaaDoorMem
import Derived.Test.YtpemjhghiccngaaDoorIn2
import Derived.Laws.CopyRow
import Derived.Lib.SliceRun
namespace Go.Proofs.YtpemjhghiccngaaDoor
set_option linter.unusedVariables false
set_option linter.unusedSimpArgs false
open Go.RowKit
/-! Rows that are cut, stored into, cleared. -/
theorem Row.upto {w : World} {B : Nat} {e : TypeId} {sz : Nat} {A : Option Addr} {n c : Nat} {xs : List Value} (h : Row w B e sz (.slice A n c) n xs) {k : Nat} (hk : k ≤ n) : Row w B e sz (.slice A k c) k (xs.take (k * sz)) := by
  have hm : k * sz ≤ n * sz := Nat.mul_le_mul_right _ hk
  refine ⟨by rw [List.length_take, h.1]; omega, ?_⟩
  rcases h.2 with ⟨hv, rfl⟩ | ⟨g, off, cap, cur, hv, hb, hg, hn, hcm, hs, ht⟩
  · cases hv
    exact .inl ⟨by rw [show k = 0 by omega], by omega⟩
  · cases hv
    exact .inr ⟨g, off, c, cur, rfl, hb, hg, by omega, hcm, hs, by rw [← ht, List.take_take, Nat.min_eq_left hm]⟩
theorem run_clear_none {P : Program} (w : World) (t e ty : TypeId) (ht : P.underlying t = some (.slice e)) (A : Option Addr) (c : Nat) :
    (Builtin.clear_ #[t] ty #[.slice A 0 c]).run P w = .ok (.tuple #[]) w := by
  cases A <;> simp [Builtin.clear_, run_underlying ht]
theorem run_clear_row {P : Program} (w : World) (t e ty : TypeId) (z : Value) (ht : P.underlying t = some (.slice e)) (hv : ∀ w, (zeroValue e).run P w = .ok z w) (hz : ∀ u ∈ z.cells, u.oneCell' = true)
    (g o n c : Nat) (cur : Array Value) (E : TypeId) (hg : w.heap[g]? = some (.cells cur E (0, 0))) (hl : o + n * z.cells.size ≤ cur.size) :
    ∃ w' cur', (Builtin.clear_ #[t] ty #[.slice (some ⟨g, o, none⟩) n c]).run P w = .ok (.tuple #[]) w' ∧ w'.heap[g]? = some (.cells cur' E (0, 0)) ∧ cur'.size = cur.size ∧ cur'.toList.take o = cur.toList.take o ∧ w.grownBy w' (some g) := by
  cases n with
  | zero => exact ⟨w, cur, run_clear_none w t e ty ht _ c, hg, rfl, rfl, ⟨rfl, rfl, rfl, Nat.le_refl _, fun _ _ _ => rfl⟩⟩
  | succ n =>
    have hzl : (Builtin.zeroCells z.cells (n + 1)).toList.length = (n + 1) * z.cells.size := by rw [Array.length_toList, size_zeroCells]
    have hst := run_storeCells_at P g o E (Builtin.zeroCells z.cells (n + 1)).toList 0 cur w hg (by rw [hzl]; simpa using hl) (by
      intro v hv'
      simp only [Builtin.zeroCells, Array.toList_map, List.mem_map] at hv'
      obtain ⟨i, hi, rfl⟩ := hv'
      have hpos : 0 < z.cells.size := by
        rcases Nat.eq_zero_or_pos z.cells.size with e0 | e0
        · rw [e0] at hi; simp at hi
        · exact e0
      have hlt : i % z.cells.size < z.cells.size := Nat.mod_lt _ hpos
      rw [getElem!_pos z.cells _ hlt]
      exact hz _ (Array.getElem_mem (xs := z.cells) hlt))
    simp only [Nat.add_zero] at hst
    obtain ⟨R, hR⟩ : ∃ R : Array Value, R = (cur.toList.take o ++ (Builtin.zeroCells z.cells (n + 1)).toList ++ cur.toList.drop (o + (Builtin.zeroCells z.cells (n + 1)).toList.length)).toArray := ⟨_, rfl⟩
    rw [← hR] at hst
    refine ⟨w.setRow g R, R, ?_, setRow_heap w g cur _ E _ hg, ?_, ?_, ⟨rfl, rfl, rfl, by simp [World.setRow], fun k _ hk => setRow_other w g k _ (fun e => hk (by rw [e]))⟩⟩
    · simp [Builtin.clear_, run_underlying ht, hv, hst]
    · rw [hR]
      simp only [List.size_toArray, List.length_append, List.length_take, List.length_drop, Array.length_toList, size_zeroCells]
      omega
    · rw [hR, List.append_assoc]
      exact List.take_left' (by rw [List.length_take, Array.length_toList]; omega)
/-- Where s[k:] lies. -/
def fromA (A : Option Addr) (c k sz : Nat) : Option Addr := if c = k then A else A.map (fun x => x.add (k * sz))
theorem run_from {P : Program} (t e : TypeId) (sz : Nat) (ht : P.underlying t = some (.slice e)) (hsz : ∀ w, (sizeOf e).run P w = .ok sz w) (A : Option Addr) (n c k : Nat) (hk : k ≤ n) (hn : n ≤ c) (w : World) :
    (Instr.slice t (.slice A n c) (some (.int .i64 (k : Int))) none none).run P w = .ok (.slice (fromA A c k sz) (n - k) (c - k)) w := by
  have h1 : (0 : Int) ≤ (k : Int) ∧ (k : Int) ≤ (n : Int) := by omega
  simp [Instr.slice, run_underlying ht, Instr.sliceBounds, Instr.sliceBound, hsz, fromA, h1, asIntOf]
  intro h2; omega
theorem run_upto {P : Program} (t e : TypeId) (sz : Nat) (ht : P.underlying t = some (.slice e)) (hsz : ∀ w, (sizeOf e).run P w = .ok sz w) (A : Option Addr) (n c k : Nat) (hk : k ≤ n) (hn : n ≤ c) (w : World) :
    (Instr.slice t (.slice A n c) none (some (.int .i64 (k : Int))) none).run P w = .ok (.slice A k c) w := by
  have h1 : (0 : Int) ≤ (k : Int) ∧ (k : Int) ≤ (c : Int) := by omega
  have h2 : (if c = 0 then A else A.map (fun x => x.add (0 * sz))) = A := by
    split
    · rfl
    · cases A with
      | none => rfl
      | some a => simp [Addr.add]
  simp [Instr.slice, run_underlying ht, Instr.sliceBounds, Instr.sliceBound, hsz, h1, asIntOf]
  rw [if_pos (show k ≤ c by omega)]
  rw [Nat.zero_mul] at h2
  rw [h2]
/-- 'clear(s[k:])': what is ahead of k is as it was. -/
theorem run_clear_tail {P : Program} (w : World) (t e ty : TypeId) (z : Value) (ht : P.underlying t = some (.slice e)) (hv : ∀ w, (zeroValue e).run P w = .ok z w) (hz : ∀ u ∈ z.cells, u.oneCell' = true)
    {B sz : Nat} (hsz : z.cells.size = sz) {A : Option Addr} {n c : Nat} {xs : List Value} (h : Row w B e sz (.slice A n c) n xs) {k : Nat} (hk : k ≤ n) :
    ∃ w', (Builtin.clear_ #[t] ty #[.slice (fromA A c k sz) (n - k) (c - k)]).run P w = .ok (.tuple #[]) w' ∧ Row w' B e sz (.slice A k c) k (xs.take (k * sz)) ∧ w.grownBy w' (Value.slice A n c).ownBlock := by
  unfold fromA
  have hu := h.upto hk
  rcases h.2 with ⟨hv', rfl⟩ | ⟨g, off, cap, cur, hv', hb, hg, hn, hcm, hs, htk⟩
  · cases hv'
    obtain rfl : k = 0 := by omega
    exact ⟨w, run_clear_none w t e ty ht _ _, hu, ⟨rfl, rfl, rfl, Nat.le_refl _, fun _ _ _ => rfl⟩⟩
  · cases hv'
    by_cases hck : c = k
    · obtain rfl : n = k := by omega
      rw [Nat.sub_self]
      exact ⟨w, run_clear_none w t e ty ht _ _, hu, ⟨rfl, rfl, rfl, Nat.le_refl _, fun _ _ _ => rfl⟩⟩
    · rw [if_neg hck]
      have hadd : (Option.map (fun x : Addr => x.add (k * sz)) (some ⟨g, off, none⟩)) = some ⟨g, off + k * sz, none⟩ := by
        simp only [Option.map_some, Addr.add]
        split <;> simp_all
      rw [hadd]
      have hmul : k * sz + (n - k) * sz = n * sz := by rw [← Nat.add_mul]; congr 1; omega
      have hmul2 : n * sz ≤ c * sz := Nat.mul_le_mul_right _ hn
      obtain ⟨w', cur', hr, h1, h2, h3, h4⟩ := run_clear_row w t e ty z ht hv hz g (off + k * sz) (n - k) (c - k) cur e hg (by rw [hsz]; omega)
      refine ⟨w', hr, ⟨hu.1, .inr ⟨g, off, c, cur', rfl, hb, h1, by omega, hcm, by omega, ?_⟩⟩, h4⟩
      have h5 := congrArg (List.drop off) h3
      rw [List.drop_take, List.drop_take, Nat.add_sub_cancel_left] at h5
      rw [h5, ← htk, List.take_take, Nat.min_eq_left (by omega)]
theorem Row.set1 {w : World} {B : Nat} {e : TypeId} {A : Option Addr} {c n : Nat} {xs : List Value} (h : Row w B e 1 (.slice A n c) n xs) {k : Nat} (hk : k < n) :
    ∃ g off, A = some ⟨g, off, none⟩ ∧ B ≤ g ∧ g < w.heap.size ∧ w.cell? ⟨g, off + k, none⟩ = xs[k]? ∧ w.frozen? ⟨g, off + k, none⟩ = false ∧ ∀ u, Row (w.setCell ⟨g, off + k, none⟩ u) B e 1 (.slice A n c) n (xs.set k u) := by
  obtain ⟨hl, h2⟩ := h
  rcases h2 with ⟨hv, rfl⟩ | ⟨g, off, cap, cur, hv, hb, hg, hn, hm, hs, ht⟩
  · omega
  · cases hv
    refine ⟨g, off, rfl, hb, lt_of_heap hg, ?_, frozen_of_row w g _ cur e hg, fun u => ⟨by simp [hl], .inr ⟨g, off, c, _, rfl, hb, heap_setCell_same w g (off + k) cur e u hg, hn, hm, by simpa using hs, ?_⟩⟩⟩
    · rw [cell_of_row w g (off + k) cur e (0, 0) hg, ← ht, List.getElem?_take, if_pos (by omega), List.getElem?_drop]
      simp
    · rw [← ht, Array.toList_setIfInBounds, List.drop_set, if_neg (by omega), Nat.add_sub_cancel_left, List.take_set]
/-- An element of three cells, read and written. -/
theorem Row.set3 {w : World} {B : Nat} {e : TypeId} {A : Option Addr} {c n : Nat} {xs : List Value} (h : Row w B e 3 (.slice A n c) n xs) {k : Nat} (hk : k < n) :
    ∃ g off, A = some ⟨g, off, none⟩ ∧ B ≤ g ∧ g < w.heap.size ∧ (∀ j, j < 3 → w.cell? ⟨g, off + k * 3 + j, none⟩ = xs[k * 3 + j]? ∧ w.frozen? ⟨g, off + k * 3 + j, none⟩ = false) ∧
      ∀ u0 u1 u2, Row (((w.setCell ⟨g, off + k * 3, none⟩ u0).setCell ⟨g, off + k * 3 + 1, none⟩ u1).setCell ⟨g, off + k * 3 + 2, none⟩ u2) B e 3 (.slice A n c) n (((xs.set (k * 3) u0).set (k * 3 + 1) u1).set (k * 3 + 2) u2) := by
  obtain ⟨hl, h2⟩ := h
  rcases h2 with ⟨hv, rfl⟩ | ⟨g, off, cap, cur, hv, hb, hg, hn, hm, hs, ht⟩
  · omega
  · cases hv
    refine ⟨g, off, rfl, hb, lt_of_heap hg, fun j hj => ⟨?_, frozen_of_row w g _ cur e hg⟩, fun u0 u1 u2 => ⟨by simp [hl], .inr ⟨g, off, c, ((cur.setIfInBounds (off + k * 3) u0).setIfInBounds (off + k * 3 + 1) u1).setIfInBounds (off + k * 3 + 2) u2, rfl, hb, ?_, hn, hm, ?_, ?_⟩⟩⟩
    · rw [cell_of_row w g _ cur e (0, 0) hg, ← ht, List.getElem?_take, if_pos (by omega), List.getElem?_drop, Array.getElem?_toList]
      congr 1; omega
    · exact heap_setCell_same _ g _ _ e u2 (heap_setCell_same _ g _ _ e u1 (heap_setCell_same w g _ cur e u0 hg))
    · simpa using hs
    · rw [← ht]
      simp only [Array.toList_setIfInBounds]
      rw [List.drop_set, if_neg (by omega), List.drop_set, if_neg (by omega), List.drop_set, if_neg (by omega), List.take_set, List.take_set, List.take_set,
        show off + k * 3 - off = k * 3 by omega, show off + k * 3 + 1 - off = k * 3 + 1 by omega, show off + k * 3 + 2 - off = k * 3 + 2 by omega]
/-- Cells written into a row. -/
theorem scRow (g : Nat) (e : TypeId) : ∀ (vs : List Value) (o : Nat) (w : World) (cur : Array Value), w.heap[g]? = some (.cells cur e (0, 0)) → o + vs.length ≤ cur.size →
    ∃ cur', (w.setCells g o vs).heap[g]? = some (.cells cur' e (0, 0)) ∧ cur'.size = cur.size ∧ cur'.toList = cur.toList.take o ++ (vs ++ cur.toList.drop (o + vs.length))
  | [], o, w, cur, h, _ => ⟨cur, h, rfl, by simp⟩
  | v :: vs, o, w, cur, h, hl => by
      rw [List.length_cons] at hl
      have h1 := heap_setCell_same w g o cur e v h
      obtain ⟨cur', a, b, c⟩ := scRow g e vs (o + 1) (w.setCell ⟨g, o, none⟩ v) (cur.setIfInBounds o v) h1 (by simp; omega)
      refine ⟨cur', a, by rw [b]; simp, ?_⟩
      rw [c, Array.toList_setIfInBounds]
      have e1 : (cur.toList.set o v).take (o + 1) = cur.toList.take o ++ [v] := by
        rw [List.take_set, List.take_add_one]
        have : cur.toList[o]? = some (cur.toList[o]'(by simp; omega)) := List.getElem?_eq_getElem _
        rw [this, Option.toList_some, List.set_append_right _ _ (by simp; omega)]
        have hlen : (cur.toList.take o).length = o := by rw [List.length_take]; simp; omega
        rw [hlen, Nat.sub_self]; rfl
      have e2 : (cur.toList.set o v).drop (o + 1 + vs.length) = cur.toList.drop (o + 1 + vs.length) := by
        rw [List.drop_set, if_pos (by omega)]
      rw [e1, e2, List.append_assoc, List.length_cons]
      simp [Nat.add_assoc, Nat.add_comm 1]
theorem scGrown (w : World) (g o : Nat) (vs : List Value) : w.grownBy (w.setCells g o vs) (some g) := by
  induction vs generalizing o w with
  | nil => exact ⟨rfl, rfl, rfl, Nat.le_refl _, fun _ _ _ => rfl⟩
  | cons v vs ih =>
    have h := ih (w.setCell ⟨g, o, none⟩ v) (o + 1)
    refine ⟨h.os, h.tape, h.output, Nat.le_trans (by simp [World.setCell]) h.size, fun k hk hn => ?_⟩
    rw [World.setCells, h.block k (by simpa [World.setCell] using hk) hn]
    exact Below.heap_setCell _ _ _ _ (fun e => hn (by rw [e]))
/-! Two new blocks, one of them appended to. -/
theorem rdBlock {w : World} {g : Nat} {cs : Array Value} {e : TypeId} {r : Nat × Nat} (h : w.heap[g]? = some (.cells cs e r)) : Rd w (some ⟨g, 0, none⟩) cs.toList := by
  intro i u hu
  refine ⟨g, 0, rfl, ?_⟩
  rw [cell_of_row _ _ _ _ _ r h, Nat.zero_add, ← Array.getElem?_toList]
  exact hu
theorem rdNew (w : World) (cs : Array Value) (e : TypeId) : Rd (w.alloc (.cells cs e)) (some ⟨w.heap.size, 0, none⟩) cs.toList := rdBlock (heap_alloc_new w (.cells cs e))
theorem rdTwo {w w7 : World} {v : Value} {us cs : Array Value} {e e' : TypeId} (hg : ((w.alloc (.cells cs e)).alloc (.cells us e')).drew.grownBy w7 v.ownBlock) (hv : v.ownBlock = some w.heap.size) : Rd w7 (some ⟨w.heap.size + 1, 0, none⟩) us.toList := by
  have h := hg.block (w.heap.size + 1) (by show _ < ((w.alloc (.cells cs e)).alloc (.cells us e')).heap.size; simp) (by rw [hv]; simp)
  have h2 : ((w.alloc (.cells cs e)).alloc (.cells us e')).heap[w.heap.size + 1]? = some (.cells us e') := by
    have := heap_alloc_new (w.alloc (.cells cs e)) (.cells us e')
    rwa [World.size_alloc] at this
  exact rdBlock (h.trans h2)
theorem rdTwo' {w w7 : World} {v : Value} {us cs : Array Value} {e e' : TypeId} (hg : ((w.alloc (.cells us e')).alloc (.cells cs e)).drew.grownBy w7 v.ownBlock) (hv : v.ownBlock = some (w.heap.size + 1)) : Rd w7 (some ⟨w.heap.size, 0, none⟩) us.toList := by
  have h := hg.block w.heap.size (by show _ < ((w.alloc (.cells us e')).alloc (.cells cs e)).heap.size; simp; omega) (by rw [hv]; simp)
  have h2 : ((w.alloc (.cells us e')).alloc (.cells cs e)).heap[w.heap.size]? = some (.cells us e') := (Below.heap_alloc _ _ _ (by simp)).trans (heap_alloc_new w (.cells us e'))
  exact rdBlock (h.trans h2)
theorem rowTwo (w : World) (o : Obj) (E : TypeId) (sz : Nat) : Row ((w.alloc o).alloc (.cells #[] E)).drew w.heap.size E sz (.slice (some ⟨w.heap.size + 1, 0, none⟩) 0 0) 0 [] := by
  have h := Row.new (w.alloc o) #[] w.heap.size E sz 0 (by simp) (by simp [maxLen]) (by simp)
  rw [World.size_alloc] at h
  exact h.at_ fun _ _ => rfl
end Go.Proofs.YtpemjhghiccngaaDoor
