import Derived.Test.YtkpfendodmfeoaaTw5
import Derived.Shelf.Spec.SlicesInsertGrow
import Derived.Deep.RegionLaw
import Derived.Deep.Upon
namespace Go.Proofs.Ytkpfendodmfeoaa
set_option linter.unusedVariables false
set_option linter.unusedSimpArgs false
open Go.RowKit
theorem Try.info_ptr : (Try.prog.info? 54).map (fun i => (i.zero, i.size, i.bytes)) = some (some (.pointer none), 1, 8) := by kernel_rfl
/-- Cells written into a row. -/
theorem setCells_row (g : Nat) (e : TypeId) : ∀ (vs : List Value) (o : Nat) (w : World) (cur : Array Value), w.heap[g]? = some (.cells cur e (0, 0)) → o + vs.length ≤ cur.size →
    ∃ cur', (w.setCells g o vs).heap[g]? = some (.cells cur' e (0, 0)) ∧ cur'.size = cur.size ∧ cur'.toList = cur.toList.take o ++ (vs ++ cur.toList.drop (o + vs.length))
  | [], o, w, cur, h, _ => ⟨cur, h, rfl, by simp⟩
  | v :: vs, o, w, cur, h, hl => by
      rw [List.length_cons] at hl
      have h1 := heap_setCell_same w g o cur e v h
      obtain ⟨cur', a, b, c⟩ := setCells_row g e vs (o + 1) (w.setCell ⟨g, o, none⟩ v) (cur.setIfInBounds o v) h1 (by simp; omega)
      refine ⟨cur', a, by rw [b]; simp, ?_⟩
      rw [c, Array.toList_setIfInBounds]
      have e1 : (cur.toList.set o v).take (o + 1) = cur.toList.take o ++ [v] := by
        rw [List.take_set, List.take_add_one]
        have : cur.toList[o]? = some (cur.toList[o]'(by simp; omega)) := List.getElem?_eq_getElem _
        rw [this, Option.toList_some, List.set_append_right _ _ (by simp; omega)]
        have hlen : (cur.toList.take o).length = o := by rw [List.length_take]; simp; omega
        rw [hlen, Nat.sub_self]; rfl
      have e2 : (cur.toList.set o v).drop (o + 1 + vs.length) = cur.toList.drop (o + 1 + vs.length) := by
        rw [List.drop_set, if_pos (by omega)]
      rw [e1, e2, List.append_assoc, List.length_cons]
      simp [Nat.add_assoc, Nat.add_comm 1]
theorem setCells_grown (w : World) (g o : Nat) (vs : List Value) : w.grownBy (w.setCells g o vs) (some g) := by
  induction vs generalizing o w with
  | nil => exact ⟨rfl, rfl, rfl, Nat.le_refl _, fun _ _ _ => rfl⟩
  | cons v vs ih =>
    have h := ih (w.setCell ⟨g, o, none⟩ v) (o + 1)
    refine ⟨h.os, h.tape, h.output, Nat.le_trans (by simp [World.setCell]) h.size, fun k hk hn => ?_⟩
    rw [World.setCells, h.block k (by simpa [World.setCell] using hk) hn]
    exact Below.heap_setCell _ _ _ _ (fun e => hn (by rw [e]))
set_option maxHeartbeats 1600000 in
theorem ins_end (w : World) (B : Nat) (A : Option Addr) (n c : Nat) (xs : List Value) (hown : Row w B 54 1 (.slice A n c) n xs) (hB : B ≤ w.heap.size) (vb : Nat) (u : Value)
    (hv : w.heap[vb]? = some (.cells #[u] 54 (0, 0))) (hu : u.oneCell' = true) (hn : n ≤ 4294967296) :
    Calls Try.prog 32 #[.slice A n c, .int .i64 n, .slice (some ⟨vb, 0, none⟩) 1 1] w fun e w' => ∃ A' c', e = .returned (.slice A' (n + 1) c') ∧
      Row w' B 54 1 (.slice A' (n + 1) c') (n + 1) (xs ++ [u]) ∧ w.grownBy w' (Value.slice A n c).ownBlock ∧ ((Value.slice A' (n + 1) c').ownBlock = (Value.slice A n c).ownBlock ∨ ∃ g, (Value.slice A' (n + 1) c').ownBlock = some g ∧ w.heap.size ≤ g) := by
  have hnews : Rd w (some ⟨vb, 0, none⟩) [u] := by
    intro k x hk
    match k, hk with
    | 0, hk => simp at hk; subst hk; exact ⟨_, _, rfl, by rw [cell_of_row w vb _ _ _ (0, 0) hv]; rfl⟩
    | k + 1, hk => simp at hk
  obtain ⟨A', c', e, hnc, hcm, _⟩ := hown.rd
  cases e
  simp only [maxLen] at hcm
  have i1 : (n : Int) ≤ (c : Int) := by omega
  have i2 : (0 : Int) ≤ (n : Int) := by omega
  go_enter Try.func32, Try.ntmps32
  go_wp2_with (at_builtin; refine wpList_append_row _ rfl _ _ 55 rfl B 54 1 8 _ Try.underlying55 Try.info_ptr rfl (by decide) (.slice A n c) _ _ rfl hown (some ⟨vb, 0, none⟩) 1 1 [u] rfl rfl hnews (by simpa using hu) (by omega) (by simp only [maxLen]; omega) hB ?_; intro A3 c3 w3 hrow3 hg3 hb3)
  all_goals
    go_ret
    exact ⟨A3, c3, rfl, hrow3, by rw [ownB] at hg3 ⊢; exact hg3, by rw [ownB, ownB] at hb3 ⊢; exact hb3.imp id fun h => ⟨_, h, Nat.le_refl _⟩⟩
/-- What stands in a row behind an insert. -/
theorem ins_list {cur : List Value} {off n i : Nat} {xs : List Value} {u : Value} (hx : (cur.drop off).take n = xs) (hl : xs.length = n) (hi : i ≤ n) (hlen : off + (n + 1) ≤ cur.length) (c1 c2 : List Value)
    (h1 : c1 = cur.take (off + (i + 1)) ++ (xs.drop i ++ cur.drop (off + (i + 1) + (xs.drop i).length)))
    (h2 : c2 = c1.take (off + i) ++ ([u] ++ c1.drop (off + i + 1))) : (c2.drop off).take (n + 1) = xs.take i ++ u :: xs.drop i := by
  subst h2
  have e1 : c1.take (off + i) = cur.take (off + i) := by
    rw [h1, List.take_append_of_le_length (by rw [List.length_take]; omega), List.take_take, Nat.min_eq_left (by omega)]
  have e2 : c1.drop (off + i + 1) = xs.drop i ++ cur.drop (off + (i + 1) + (xs.drop i).length) := by
    rw [h1]; exact List.drop_left' (by rw [List.length_take]; omega)
  rw [e1, e2, List.drop_append_of_le_length (by rw [List.length_take]; omega)]
  have e3 : (cur.take (off + i)).drop off = xs.take i := by
    rw [← hx, List.drop_take, Nat.add_sub_cancel_left, List.take_take, Nat.min_eq_left hi]
  rw [e3, List.singleton_append, ← List.cons_append, ← List.append_assoc]
  exact List.take_left' (by simp; omega)
set_option maxHeartbeats 1600000 in
theorem ins_shift (w : World) (B g off n c i : Nat) (cur : Array Value) (xs : List Value) (hl : xs.length = n) (hb : B ≤ g) (hg : w.heap[g]? = some (.cells cur 54 (0, 0))) (hcm : c ≤ maxLen) (hcs : off + c * 1 ≤ cur.size) (htk : (cur.toList.drop off).take (n * 1) = xs)
    (hi : i < n) (hroom : n + 1 ≤ c) (vb : Nat) (u : Value) (hv : w.heap[vb]? = some (.cells #[u] 54 (0, 0))) (hu : u.oneCell' = true) (h1x : ∀ x ∈ xs, x.oneCell' = true) (hvg : vb ≠ g) (hn : n ≤ 4294967296) :
    Calls Try.prog 32 #[.slice (some ⟨g, off, none⟩) n c, .int .i64 i, .slice (some ⟨vb, 0, none⟩) 1 1] w fun e w' => e = .returned (.slice (some ⟨g, off, none⟩) (n + 1) c) ∧
      Row w' B 54 1 (.slice (some ⟨g, off, none⟩) (n + 1) c) (n + 1) (xs.take i ++ u :: xs.drop i) ∧ w.grownBy w' (some g) := by
  rw [Nat.mul_one] at hcs htk
  simp only [maxLen] at hcm
  have hcells : ∀ j v, xs[j]? = some v → w.cell? ⟨g, off + j, none⟩ = some v := fun j v hj => by
    rw [cell_of_row w g _ cur _ (0, 0) hg]
    rw [← htk, List.getElem?_take] at hj
    split at hj
    · rw [List.getElem?_drop] at hj; simpa using hj
    · cases hj
  have hsome : ∀ j, j < c → (w.cell? ⟨g, off + j, none⟩).isSome = true := fun j hj => by
    rw [cell_of_row w g _ cur _ (0, 0) hg, Array.getElem?_eq_getElem (by omega)]; rfl
  have hfz : ∀ j, w.frozen? ⟨g, j, none⟩ = false := fun j => frozen_of_row w g j _ _ hg
  have hsz : (Try.prog.info? 54).map (·.size) = some 1 := by
    obtain ⟨i0, hi0, h0, h1, h2⟩ := info_parts Try.info_ptr
    rw [hi0]; simp [h1]
  have hzz : ∀ w, (Go.sizeOf 54).run Try.prog w = .ok 1 w := fun w => by
    obtain ⟨i0, hi0, h0, h1, h2⟩ := info_parts Try.info_ptr
    simp [Go.sizeOf, typeInfo, hi0, h1]
  have hov : ∀ lb cb, (callFunc 45 #[.slice (some ⟨vb, 0, none⟩) 1 1, .slice (some ⟨g, off + (i + 1), none⟩) lb cb]).run Try.prog w = .ok (.value (.bool false)) w := fun lb cb => by
    rw [run_callFunc_extern Try.func45 (by kernel_rfl) (by kernel_rfl) (by kernel_rfl) (e := Extern.SlicesOverlaps.overlaps #[55, 55] #[4]) (by kernel_rfl),
      Lib.run_overlaps_apart w 55 4 54 Try.underlying55 1 hzz ⟨vb, 0, none⟩ ⟨g, off + (i + 1), none⟩ 1 1 lb cb hvg 54 54 1 cur.size (by simp [World.shape?, hv]) (by simp [World.shape?, hg]) (by omega) (frozen_of_row w vb _ _ _ hv) (frozen_of_row w vb _ _ _ hv)]
    rfl
  have hdl : (xs.drop i).length = n - i := by rw [List.length_drop, hl]
  have hcp1 : ∀ ty dc sc, (Builtin.copy_ #[55, 55] ty #[.slice (some ⟨g, off + (i + 1), none⟩) (n - i) dc, .slice (some ⟨g, off + i, none⟩) (n + 1 - i) sc]).run Try.prog w.drew = .ok (goInt (xs.drop i).length) (w.drew.setCells g (off + (i + 1)) (xs.drop i)) := fun ty dc sc =>
    run_copy_cells w.drew _ _ ty 54 g (off + (i + 1)) (n - i) dc ⟨g, off + i, none⟩ (n + 1 - i) sc (xs.drop i) Try.underlying55 hsz (by rw [hdl]; simp only [Nat.min_def]; split <;> omega)
      (fun j v hj => by rw [Addr.add_lit, Nat.add_assoc]; exact hcells (i + j) v (by rwa [List.getElem?_drop] at hj))
      (fun j hj => by rw [Nat.add_assoc]; exact hsome _ (by omega)) (fun j hj => hfz _) (fun v hv => h1x v (List.mem_of_mem_drop hv))
  obtain ⟨cur1, a1, b1, d1⟩ := setCells_row g 54 (xs.drop i) (off + (i + 1)) w.drew cur hg (by rw [hdl]; omega)
  have G1 := setCells_grown w.drew g (off + (i + 1)) (xs.drop i)
  obtain ⟨W1, hW1⟩ : ∃ W1, W1 = w.drew.setCells g (off + (i + 1)) (xs.drop i) := ⟨_, rfl⟩
  rw [← hW1] at hcp1 a1 G1
  have hvW : W1.cell? ⟨vb, 0, none⟩ = some u := by
    have := (G1.block vb (lt_of_heap hv) (by simpa using hvg)).trans hv
    rw [cell_of_row W1 vb _ _ _ (0, 0) this]; rfl
  have hcp2 : ∀ ty dc, (Builtin.copy_ #[55, 55] ty #[.slice (some ⟨g, off + i, none⟩) (n + 1 - i) dc, .slice (some ⟨vb, 0, none⟩) 1 1]).run Try.prog W1 = .ok (goInt ([u] : List Value).length) (W1.setCells g (off + i) [u]) := fun ty dc =>
    run_copy_cells W1 _ _ ty 54 g (off + i) (n + 1 - i) dc ⟨vb, 0, none⟩ 1 1 [u] Try.underlying55 hsz (by simp only [List.length_singleton, Nat.min_def]; split <;> omega)
      (fun j v hj => by
        match j, hj with
        | 0, hj => simp at hj; subst hj; simpa [Addr.add] using hvW
        | j + 1, hj => simp at hj)
      (fun j hj => by rw [cell_of_row W1 g _ cur1 _ (0, 0) a1, Array.getElem?_eq_getElem (by simp at hj; omega)]; rfl) (fun j hj => frozen_of_row W1 g _ _ _ a1) (by simpa using hu)
  obtain ⟨cur2, a2, b2, d2⟩ := setCells_row g 54 [u] (off + i) W1 cur1 a1 (by simp; omega)
  have G2 := setCells_grown W1 g (off + i) [u]
  have hfin := ins_list (i := i) (u := u) htk hl (by omega) (by simp; omega) _ _ d1 d2
  have hrow : Row (W1.setCells g (off + i) [u]) B 54 1 (.slice (some ⟨g, off, none⟩) (n + 1) c) (n + 1) (xs.take i ++ u :: xs.drop i) :=
    ⟨by simp; omega, .inr ⟨g, off, c, cur2, rfl, hb, a2, hroom, by simp only [maxLen]; omega, by omega, by rw [Nat.mul_one]; exact hfin⟩⟩
  have hgr : w.grownBy (W1.setCells g (off + i) [u]) (some g) := ⟨G2.os.trans G1.os, G2.tape.trans G1.tape, G2.output.trans G1.output, Nat.le_trans G1.size G2.size, fun k hk hn => (G2.block k (Nat.lt_of_lt_of_le hk G1.size) hn).trans (G1.block k hk hn)⟩
  have HROW := Lib.hid hrow
  have HGR := Lib.hid hgr
  have hw1 : IntKind.i64.wrap ((i : Int) + 1) = (i : Int) + 1 := IntWalk.i64_in _ (by omega)
  have hb1 : (0 : Int) ≤ (i : Int) + 1 := by omega
  have htn : ((i : Int) + 1).toNat = i + 1 := by omega
  have hb2 : ¬ (c = i + 1) := by omega
  have hb3 : (i : Int) ≤ (n : Int) + 1 := by omega
  have hb4 : ¬ (c = i) := by omega
  have hb5 : (i : Int) + 1 ≤ (n : Int) + 1 := by omega
  have hz2 : ¬ ((i : Int) = (n : Int)) := by omega
  clear hrow hgr hfin d1 d2 b1 b2 a1 a2 G1 G2 hcells hsome hfz htk hv hg hW1 hvW
  go_enter Try.func32, Try.ntmps32
  go_wp2_with (simp only [hov])
  go_region_law (refine step_copy_runI rfl _ _ 55 55 rfl (.slice (some ⟨g, off + (i + 1), none⟩) (n - i) (c - (i + 1))) (.slice (some ⟨g, off + i, none⟩) (n + 1 - i) (c - i)) (by simp [Act.eval, Act.put]) (by simp [Act.eval, Act.put]) (hcp1 _ _ _) ?_)
  go_wp2_with (at_builtin; refine wpList_copy_runI _ rfl _ _ 55 55 rfl _ _ rfl rfl (hcp2 _ _) ?_)
  go_ret
  exact ⟨rfl, HROW.out, HGR.out⟩
set_option maxHeartbeats 1600000 in
theorem ins_grow (w : World) (B g off n c i : Nat) (xs : List Value) (hl : xs.length = n) (hcells : ∀ j v, xs[j]? = some v → w.cell? ⟨g, off + j, none⟩ = some v) (hgw : g < w.heap.size) (hB : B ≤ w.heap.size)
    (hi : i < n) (hnc : n ≤ c) (hroom : c < n + 1) (vb : Nat) (u : Value) (hv : w.heap[vb]? = some (.cells #[u] 54 (0, 0))) (hu : u.oneCell' = true) (h1x : ∀ x ∈ xs, x.oneCell' = true) (hn : n ≤ 4294967296) :
    Calls Try.prog 32 #[.slice (some ⟨g, off, none⟩) n c, .int .i64 i, .slice (some ⟨vb, 0, none⟩) 1 1] w fun e w' => ∃ c', e = .returned (.slice (some ⟨w.heap.size, 0, none⟩) (n + 1) c') ∧
      Row w' B 54 1 (.slice (some ⟨w.heap.size, 0, none⟩) (n + 1) c') (n + 1) (xs.take i ++ u :: xs.drop i) ∧ Below w.heap.size w w' := by
  obtain ⟨i0, hi0, hz0, hzs, hzb⟩ := info_parts Try.info_ptr
  have hsz : (Try.prog.info? 54).map (·.size) = some 1 := by rw [hi0]; simp [hzs]
  have hold : (Builtin.firstCells i0.size i (.slice (some ⟨g, off, none⟩) i c)).run Try.prog w.drew = .ok (xs.take i).toArray w.drew := by
    rw [hzs]
    exact run_firstCells_some w.drew 1 i ⟨g, off, none⟩ i c (xs.take i) (by rw [List.length_take]; omega) (fun j v hj => by
      rw [Addr.add_lit]
      rw [List.getElem?_take] at hj
      split at hj
      · exact hcells j v hj
      · cases hj)
  have hik : i + (n + 1 - i) = n + 1 := by omega
  have hkk : (n : Int) + 1 - (i : Int) = ((n + 1 - i : Nat) : Int) := by omega
  obtain ⟨G, hG⟩ : ∃ G, G = grownCap w (n + 1) c 54 := ⟨_, rfl⟩
  obtain ⟨ROW, hROW⟩ : ∃ ROW : Array Value, ROW = (xs.take i).toArray ++ Builtin.zeroCells (Value.pointer none).cells (n + 1 - i) ++ Builtin.zeroCells (Value.pointer none).cells (G - (n + 1)) := ⟨_, rfl⟩
  have hrz : ∀ ty, (Builtin.append_ #[55, 3] ty #[.slice (some ⟨g, off, none⟩) i c, .int .i64 ((n : Int) + 1 - (i : Int))]).run Try.prog w =
      .ok (.slice (some ⟨w.heap.size, 0, none⟩) (n + 1) G) (w.drew.alloc (.cells ROW 54)) := fun ty => by
    have h := Lib.run_append_grow_zeros w 55 3 ty 54 i0 _ .i64 .i64 Try.underlying55 Try.underlying3 hi0 hz0 (some ⟨g, off, none⟩) i c (xs.take i) hold (n + 1 - i) (by omega) (by omega) (by omega) (by omega) (by rw [hzb]; omega) (by rw [hzb, hik]; exact growslice_fits hroom (by omega))
    rw [hik, ← hG, ← hROW] at h
    rw [hkk]
    exact h
  have hGn : n + 1 ≤ G := by rw [hG]; exact grownCap_ge w _ _ _
  have hGm : G ≤ maxLen := by rw [hG]; exact grownCap_le_maxLen w (n + 1) c _ (by unfold maxLen; omega)
  have hRz : ROW.size = G := by
    rw [hROW]
    simp [Builtin.zeroCells, Value.cells]
    omega
  have hR0 : (w.drew.alloc (.cells ROW 54)).heap[w.heap.size]? = some (.cells ROW 54 (0, 0)) := heap_alloc_new w.drew _
  obtain ⟨W1, hW1⟩ : ∃ W1, W1 = (w.alloc (.cells ROW 54)).drew := ⟨_, rfl⟩
  have B1 : Below w.heap.size w W1 := by rw [hW1]; exact ((Below.refl _ w).alloc (Nat.le_refl _) _).drew
  rw [show (w.drew.alloc (.cells ROW 54)).heap = W1.heap from by rw [hW1]; rfl] at hR0
  have hvW : W1.cell? ⟨vb, 0, none⟩ = some u := by
    rw [B1.cell (p := ⟨vb, 0, none⟩) (lt_of_heap hv), cell_of_row w vb _ _ _ (0, 0) hv]; rfl
  have hcpA : ∀ ty dc, (Builtin.copy_ #[55, 55] ty #[.slice (some ⟨w.heap.size, i, none⟩) (n + 1 - i) dc, .slice (some ⟨vb, 0, none⟩) 1 1]).run Try.prog W1 = .ok (goInt ([u] : List Value).length) (W1.setCells w.heap.size i [u]) := fun ty dc =>
    run_copy_cells W1 _ _ ty 54 w.heap.size i (n + 1 - i) dc ⟨vb, 0, none⟩ 1 1 [u] Try.underlying55 hsz (by simp only [List.length_singleton, Nat.min_def]; split <;> omega)
      (fun j v hj => by
        match j, hj with
        | 0, hj => simp at hj; subst hj; simpa [Addr.add] using hvW
        | j + 1, hj => simp at hj)
      (fun j hj => by rw [cell_of_row W1 _ _ ROW _ (0, 0) hR0, Array.getElem?_eq_getElem (by simp at hj; omega)]; rfl) (fun j hj => frozen_of_row W1 _ _ _ _ hR0) (by simpa using hu)
  obtain ⟨cur2, a2, b2, d2⟩ := setCells_row w.heap.size 54 [u] i W1 ROW hR0 (by simp; omega)
  have G2 := setCells_grown W1 w.heap.size i [u]
  obtain ⟨W2, hW2⟩ : ∃ W2, W2 = W1.setCells w.heap.size i [u] := ⟨_, rfl⟩
  rw [← hW2] at hcpA a2 G2
  have B2 : Below w.heap.size w W2 := B1.grown G2 B1.size (fun k e => by cases e; exact Nat.le_refl _)
  have hdl : (xs.drop i).length = n - i := by rw [List.length_drop, hl]
  have hcpB : ∀ ty dc sc, (Builtin.copy_ #[55, 55] ty #[.slice (some ⟨w.heap.size, i + 1, none⟩) (n - i) dc, .slice (some ⟨g, off + i, none⟩) (n - i) sc]).run Try.prog W2.drew = .ok (goInt (xs.drop i).length) (W2.drew.setCells w.heap.size (i + 1) (xs.drop i)) := fun ty dc sc =>
    run_copy_cells W2.drew _ _ ty 54 w.heap.size (i + 1) (n - i) dc ⟨g, off + i, none⟩ (n - i) sc (xs.drop i) Try.underlying55 hsz (by rw [hdl]; simp only [Nat.min_def]; split <;> omega)
      (fun j v hj => by
        rw [Addr.add_lit, Nat.add_assoc]
        show W2.cell? ⟨g, off + (i + j), none⟩ = some v
        rw [B2.cell (p := ⟨g, off + (i + j), none⟩) hgw]
        exact hcells (i + j) v (by rwa [List.getElem?_drop] at hj))
      (fun j hj => by
        show (W2.cell? ⟨w.heap.size, i + 1 + j, none⟩).isSome = true
        rw [cell_of_row W2 _ _ cur2 _ (0, 0) a2, Array.getElem?_eq_getElem (by omega)]; rfl) (fun j hj => frozen_of_row W2 _ _ _ _ a2) (fun v hv => h1x v (List.mem_of_mem_drop hv))
  obtain ⟨cur3, a3, b3, d3⟩ := setCells_row w.heap.size 54 (xs.drop i) (i + 1) W2.drew cur2 a2 (by omega)
  have G3 := setCells_grown W2.drew w.heap.size (i + 1) (xs.drop i)
  have hfin : cur3.toList.take (n + 1) = xs.take i ++ u :: xs.drop i := by
    have e0 : ROW.toList.take i = xs.take i := by
      rw [hROW]
      simp only [Array.toList_append, List.append_assoc]
      exact List.take_left' (by rw [List.length_take]; omega)
    have e1 : cur2.toList.take (i + 1) = xs.take i ++ [u] := by
      rw [d2, e0]
      rw [← List.append_assoc]
      exact List.take_left' (by rw [List.length_append, List.length_take, List.length_singleton]; omega)
    rw [d3, e1, ← List.append_assoc]
    rw [List.append_assoc (xs.take i), List.singleton_append]
    exact List.take_left' (by simp; omega)
  have hrow : Row (W2.drew.setCells w.heap.size (i + 1) (xs.drop i)) B 54 1 (.slice (some ⟨w.heap.size, 0, none⟩) (n + 1) G) (n + 1) (xs.take i ++ u :: xs.drop i) :=
    ⟨by simp; omega, .inr ⟨w.heap.size, 0, G, cur3, rfl, hB, a3, hGn, hGm, by omega, by rw [List.drop_zero, Nat.mul_one]; exact hfin⟩⟩
  have B3 : Below w.heap.size w (W2.drew.setCells w.heap.size (i + 1) (xs.drop i)) := B2.drew.grown G3 B2.size (fun k e => by cases e; exact Nat.le_refl _)
  have HROW := Lib.hid hrow
  have HB3 := Lib.hid B3
  have hw1 : IntKind.i64.wrap ((i : Int) + 1) = (i : Int) + 1 := IntWalk.i64_in _ (by omega)
  have hb1 : (0 : Int) ≤ (i : Int) + 1 := by omega
  have htn : ((i : Int) + 1).toNat = i + 1 := by omega
  have hb3 : (i : Int) ≤ (n : Int) := by omega
  have hgi : ¬ (G = i) := by omega
  have hgim : ¬ (G = i + 1) := by omega
  have hci : ¬ (c = i) := by omega
  have hz2 : ¬ ((i : Int) = (n : Int)) := by omega
  have hz3 : (c : Int) < (n : Int) + 1 := by omega
  have hb4 : (i : Int) + 1 ≤ (n : Int) + 1 := by omega
  clear hrow B3 hfin d2 d3 b2 b3 a2 a3 G2 G3 B1 B2 hR0 hROW hRz hold hkk hik hcells hv hvW hG hGm
  subst hW2
  subst hW1
  go_enter Try.func32, Try.ntmps32
  go_wp2_with (first
    | (at_builtin; refine Lib.wpList_append_run _ rfl _ _ _ _ rfl _ _ rfl rfl _ _ (hrz _) ?_)
    | (at_builtin; refine wpList_copy_runI _ rfl _ _ 55 55 rfl _ _ rfl rfl (hcpA _ _) ?_))
  go_region_law (refine step_copy_runI rfl _ _ 55 55 rfl (.slice (some ⟨w.heap.size, i + 1, none⟩) (n - i) (G - (i + 1))) (.slice (some ⟨g, off + i, none⟩) (n - i) (c - i)) (by simp [Act.eval, Act.put]) (by simp [Act.eval, Act.put]) (hcpB _ _ _) ?_)
  go_wp2
  go_ret
  exact ⟨G, rfl, HROW.out, HB3.out⟩
end Go.Proofs.Ytkpfendodmfeoaa
