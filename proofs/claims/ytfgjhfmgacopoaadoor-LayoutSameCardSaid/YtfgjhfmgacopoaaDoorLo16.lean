import Derived.Test.YtfgjhfmgacopoaaDoorLo15
namespace Go.Proofs.YtfgjhfmgacopoaaDoor
set_option linter.unusedVariables false
set_option linter.unusedSimpArgs false
open Go.RowKit Go.Shelf
/-! Chapter 18: alive, walked. -/
theorem Row.later {w w' : World} {B : Nat} {e : TypeId} {sz : Nat} {v : Value} {n : Nat} {xs : List Value} (h : Row w B e sz v n xs) (hb : Below w.heap.size w w') : Row w' B e sz v n xs := h.below hb (Nat.le_refl _)
/-- A row of cells in a block that may be written: its first cell's text is another one. -/
theorem Row.setS {w : World} {B : Nat} {e : TypeId} {g o c n : Nat} {xs : List Value} (h : Row w B e 3 (.slice (some ⟨g, o, none⟩) n c) n xs) (hn : 0 < n) :
    w.cell? ⟨g, o, none⟩ = xs[0]? ∧ w.frozen? ⟨g, o, none⟩ = false ∧ ∀ u, Row (w.setCell ⟨g, o, none⟩ u) B e 3 (.slice (some ⟨g, o, none⟩) n c) n (xs.set 0 u) := by
  obtain ⟨hl, h2⟩ := h
  rcases h2 with ⟨hv, rfl⟩ | ⟨g', o', cap, cur, hv, hb, hg, hnc, hm, hs, ht⟩
  · omega
  · cases hv
    refine ⟨?_, frozen_of_row w g _ cur e hg, fun u => ⟨by simp [hl], .inr ⟨g, o, c, _, rfl, hb, heap_setCell_same w g o cur e u hg, hnc, hm, by simpa using hs, ?_⟩⟩⟩
    · rw [cell_of_row w g o cur e (0, 0) hg, ← ht, List.getElem?_take, if_pos (by omega), List.getElem?_drop]
      simp
    · rw [← ht, Array.toList_setIfInBounds, List.drop_set, if_neg (by omega), Nat.sub_self, List.take_set]
theorem ViewAt.set2 {w : World} {b : Nat} {v : ViewT} (h : ViewAt w b v) (g r : Bs) : ViewAt ((w.setCell ⟨b, 4, none⟩ (str g)).setCell ⟨b, 3, none⟩ (str r)) b { v with ghost := g, right := r } := by
  have h1 := heap_setCell_same w b 4 _ _ (str g) h
  exact heap_setCell_same _ b 3 _ _ (str r) h1
theorem FrB.same {w w' : World} {b : Nat} {v : Value} {r c : Nat} (h : FrB w b v r c) (e : w'.heap[b]? = w.heap[b]?) : FrB w' b v r c := e.trans h
theorem alRow_set : (flatC alRow).set 0 (str [120]) = flatC (⟨[120], 1, false⟩ :: alRow.tail) := rfl
theorem alRow_ne : eqF ⟨[alRow], 0, 3⟩ ⟨[⟨[120], 1, false⟩ :: alRow.tail], 0, 3⟩ = false := by decide
theorem alRow_eq : eqF ⟨[alRow], 0, 3⟩ ⟨[alRow], 0, 3⟩ = true := by decide
set_option maxHeartbeats 4000000 in
set_option maxRecDepth 100000 in
theorem al18_calls (w : World) (hU : U8 w) : Calls Tryd.prog 10 #[] w fun e w' => e = .returned (.bool true) ∧ Below w.heap.size w w' := by
  have Q1 := Lib.hid (fun W hW => LOf_calls alV (by unfold ViewT.small; decide) W hW)
  have Q2 := Lib.hid (fun W hW => Right_calls18 alV2 (by unfold ViewT.small; decide) W hW)
  have Q3 := Lib.hid (fun W hW => Right_calls18 alV3 (by unfold ViewT.small; decide) W hW)
  rw [al18_of] at Q1
  rw [al18_r2] at Q2
  rw [al18_r3] at Q3
  go_enter Tryd.func10, Tryd.ntmps10
  go_wp2_with fail
  obtain ⟨W0, hW0⟩ : ∃ W0, W0 = w.alloc (.cells #[.int .i64 2, .int .i64 8, .string ⟨#[36]⟩, .string ⟨#[]⟩, .string ⟨#[99, 100, 101, 102, 103, 104]⟩, .string ⟨#[97, 98]⟩, .int .i64 2] 30) := ⟨_, rfl⟩
  obtain ⟨b1, hb1⟩ : ∃ b, b = w.heap.size := ⟨_, rfl⟩
  have V0 : ViewAt W0 b1 alV := by rw [hW0, hb1]; exact heap_alloc_new w _
  have B0 : Below w.heap.size w W0 := by rw [hW0]; exact (Below.refl _ w).alloc (Nat.le_refl _) _
  rw [← hW0, ← hb1]
  have H1 := Lib.hid hb1
  clear hW0 hb1
  refine (Q1.out W0 (hU.later B0)).mono ?_
  rintro e w1 ⟨vv, rs, rfl, R1, D1⟩
  have V1 : ViewAt w1 b1 alV := (D1.block _ (lt_of_heap V0)).trans V0
  have B1 : Below w.heap.size w w1 := B0.trans (D1.mono B0.size)
  obtain ⟨r, hr⟩ : ∃ r, rs[0]? = some r := ⟨_, List.getElem?_eq_getElem (by rw [R1.rl]; decide)⟩
  obtain ⟨hg, hrB, _⟩ := R1.rows 0 r alRow hr rfl
  obtain ⟨A, c, hv, _⟩ := R1.out.rd
  subst hv
  have G1 := R1.frG (by decide)
  have i0 : ∃ g o, A = some ⟨g, o, none⟩ ∧ w1.cell? ⟨g, o, none⟩ = some (rowV 8 r) := by
    obtain ⟨_, _, hv, _, _, hrd, _⟩ := R1.out.rd
    injection hv with e1 _ _
    subst e1
    obtain ⟨g, o, ea, hc⟩ := hrd 0 (rowV 8 r) (by rw [List.getElem?_map, hr]; rfl)
    exact ⟨g, o, ea, hc⟩
  obtain ⟨g, o, rfl, i0⟩ := i0
  clear V0 B0 D1 Q1 R1
  unfold frV
  go_wp2_with fail
  obtain ⟨W2, hW2⟩ : ∃ W2, W2 = w1.alloc (.cells #[.slice (some ⟨g, o, none⟩) 1 c, .int .i64 0, .int .i64 3] 28) := ⟨_, rfl⟩
  obtain ⟨b2, hb2⟩ : ∃ b, b = w1.heap.size := ⟨_, rfl⟩
  have D2 : Below w1.heap.size w1 W2 := by rw [hW2]; exact (Below.refl _ _).alloc (Nat.le_refl _) _
  have F2 : FrB W2 b2 (.slice (some ⟨g, o, none⟩) 1 c) 0 3 := by rw [hW2, hb2]; exact heap_alloc_new w1 _
  rw [← hW2, ← hb2]
  have G2 := G1.later D2
  have V2 : ViewAt W2 b1 alV := (D2.block _ (lt_of_heap V1)).trans V1
  have i2 := (D2.cell (World.block_lt_of_cell? w1 _ i0)).trans i0
  have g2 := (D2.block _ (lt_of_heap hg)).trans hg
  have B2 : Below w.heap.size w W2 := B1.trans (D2.mono B1.size)
  have hwW2 := B2.size
  clear hW2 hb2 G1 V1 i0 hg B1 D2
  refine (Copy_calls18 W2 ⟨[alRow], 0, 3⟩ _ _ (G2.mono (Nat.zero_le _)) (by decide) (by decide)).mono ?_
  rintro e w3 ⟨v', vs', rfl, R3, C3, D3⟩
  obtain ⟨vx, hvx⟩ : ∃ x, vs'[0]? = some x := ⟨_, List.getElem?_eq_getElem (by rw [C3.len]; decide)⟩
  have RX := C3.row 0 vx alRow hvx rfl
  have hw2 := lt_of_heap F2
  have F3 : FrB w3 b2 _ 0 3 := (D3.block _ hw2).trans F2
  have V3 : ViewAt w3 b1 alV := (D3.block _ (lt_of_heap V2)).trans V2
  have G3 := G2.later D3
  have i3 := (D3.cell (World.block_lt_of_cell? W2 _ i2)).trans i2
  have g3 := (D3.block _ (lt_of_heap g2)).trans g2
  have B3 : Below w.heap.size w w3 := B2.trans (D3.mono B2.size)
  have hrl := lt_of_heap g2
  have hvs : vs' = [vx] := by
    have hl : vs'.length = 1 := by rw [C3.len]; rfl
    match vs', hl, hvx with
    | [y], _, h => simp at h; rw [h]
  subst hvs
  obtain ⟨A', c', hv', _⟩ := R3.rd
  subst hv'
  obtain ⟨Ax, cx, hx', _⟩ := RX.rd
  subst hx'
  obtain ⟨gx, ox, rfl, x0, x1, x2⟩ := RX.cell3 rfl (k := 0) (x := ⟨[36], 1, false⟩) rfl
  obtain ⟨gv, ov, ea, v0⟩ := (by obtain ⟨_, _, hv, _, _, hrd, _⟩ := R3.rd; injection hv with e1 _ _; subst e1; exact hrd 0 _ rfl : ∃ g o, A' = some ⟨g, o, none⟩ ∧ w3.cell? ⟨g, o + 0, none⟩ = some _)
  subst ea
  have hgx := (RX.lt gx rfl).1
  clear F2 V2 G2 i2 g2 B2 D3
  unfold frV
  have RX' := Lib.hid RX
  have R3' := Lib.hid R3
  have C3' := Lib.hid C3
  have G3' := Lib.hid G3
  clear RX R3 C3 G3 x0 x1 x2
  go_upto_region 4 with fail
  obtain ⟨b3, hb3⟩ : ∃ b, b = w3.heap.size := ⟨_, rfl⟩
  obtain ⟨W4, hW4⟩ : ∃ W4, W4 = w3.alloc (.cells #[.slice (some ⟨gv, ov, none⟩) 1 c', .int .i64 0, .int .i64 3] 28) := ⟨_, rfl⟩
  have D4 : Below w3.heap.size w3 W4 := by rw [hW4]; exact (Below.refl _ _).alloc (Nat.le_refl _) _
  have F5 : FrB W4 b3 (.slice (some ⟨gv, ov, none⟩) 1 c') 0 3 := by rw [hW4, hb3]; exact heap_alloc_new w3 _
  have F4 : FrB W4 b2 (.slice (some ⟨g, o, none⟩) 1 c) 0 3 := (D4.block _ (lt_of_heap F3)).trans F3
  have V4 : ViewAt W4 b1 alV := (D4.block _ (lt_of_heap V3)).trans V3
  have i4 : W4.cell? ⟨g, o, none⟩ = some (.slice (some ⟨r, 0, none⟩) 8 8) := (D4.cell (World.block_lt_of_cell? w3 _ i3)).trans i3
  have g4 := (D4.block _ (lt_of_heap g3)).trans g3
  have v4 : W4.cell? ⟨gv, ov, none⟩ = some (.slice (some ⟨gx, ox, none⟩) 8 cx) := (D4.cell (World.block_lt_of_cell? w3 _ v0)).trans v0
  have B4 : Below w.heap.size w W4 := B3.trans (D4.mono B3.size)
  have RX4 := Lib.hid (RX'.out.later D4)
  have R4 := Lib.hid (R3'.out.later D4)
  have C4 := Lib.hid (C3'.out.keep fun k cs m e => (D4.block k (lt_of_heap e)).trans e)
  have G4 := Lib.hid (G3'.out.later D4)
  rw [← hW4, ← hb3]
  have hgxl : gx < w3.heap.size := (RX'.out.lt gx rfl).2
  clear F3 V3 i3 g3 v0 B3 hW4 RX' R3' C3' G3' D4 hb3 hvx
  have HR := Lib.hid hr
  clear hr
  have SM := Lib.hid (fun (W : World) (h : Below W4.heap.size W4 W) => Same_calls18 W ⟨[alRow], 0, 3⟩ ⟨[alRow], 0, 3⟩ _ _ _ _ ((G4.out.later h).mono (Nat.zero_le _)) (FrG.later ⟨R4.out.mono (Nat.zero_le _), C4.out.len, fun k v l e f => (C4.out.row k v l e f).mono (Nat.zero_le _)⟩ h) (by decide) (by decide) (by decide) (by decide))
  rw [alRow_eq] at SM
  have hF4 := Lib.hid F4
  have hF5 := Lib.hid F5
  have hV4 := Lib.hid V4
  have hg4 := Lib.hid g4
  obtain ⟨p0, p1, p2, q0, q1, q2⟩ := F4.cells
  obtain ⟨s0, s1, s2, t0, t1, t2⟩ := F5.cells
  clear F4 F5 V4 g4
  go_upto_region 6 with fail
  unfold frV at SM
  go_wp2_with fail
  refine (SM.out _ (Below.refl _ _)).mono ?_
  rintro e w5 ⟨rfl, D5⟩
  have F4 : FrB w5 b2 (.slice (some ⟨g, o, none⟩) 1 c) 0 3 := (D5.block _ (lt_of_heap hF4.out)).trans hF4.out
  have F5 : FrB w5 b3 (.slice (some ⟨gv, ov, none⟩) 1 c') 0 3 := (D5.block _ (lt_of_heap hF5.out)).trans hF5.out
  have V5 : ViewAt w5 b1 alV := (D5.block _ (lt_of_heap hV4.out)).trans hV4.out
  have i5 := (D5.cell (World.block_lt_of_cell? W4 _ i4)).trans i4
  have g5 := (D5.block _ (lt_of_heap hg4.out)).trans hg4.out
  have v5 := (D5.cell (World.block_lt_of_cell? W4 _ v4)).trans v4
  have B5 : Below w.heap.size w w5 := B4.trans (D5.mono B4.size)
  have RX5 := Lib.hid (RX4.out.later D5)
  have R5 := Lib.hid (R4.out.later D5)
  have G5 := Lib.hid (G4.out.later D5)
  clear p0 p1 p2 q0 q1 q2 s0 s1 s2 t0 t1 t2 hF4 hF5 hV4 hg4 i4 v4 B4 RX4 R4 C4 G4 SM D5
  -- the store
  obtain ⟨cur, hcur⟩ : ∃ cur, w5.heap[gx]? = some (.cells cur 33 (0, 0)) := by
    rcases RX5.out.2 with ⟨hv, _⟩ | ⟨g', o', cap, cur, hv, _, hg, _⟩
    · cases hv
    · cases hv; exact ⟨cur, hg⟩
  obtain ⟨xa, xb, RS⟩ := RX5.out.setS (by decide)
  obtain ⟨W6, hW6⟩ : ∃ W6, W6 = w5.setCell ⟨gx, ox, none⟩ (.string ⟨#[120]⟩) := ⟨_, rfl⟩
  have RX6 : Hid (Row W6 W2.heap.size 33 3 (.slice (some ⟨gx, ox, none⟩) 8 cx) 8 (flatC (⟨[120], 1, false⟩ :: alRow.tail))) := Lib.hid (by
    have := RS (.string ⟨#[120]⟩)
    rw [← hW6] at this
    exact this)
  have n6 : ∀ k, k ≠ gx → W6.heap[k]? = w5.heap[k]? := fun k hk => by rw [hW6]; exact heap_setCell_other _ _ _ _ hk
  have F6 : FrB W6 b2 (.slice (some ⟨g, o, none⟩) 1 c) 0 3 := F4.same (n6 _ (ne_of_types F4 hcur (by decide)))
  have E6 : FrB W6 b3 (.slice (some ⟨gv, ov, none⟩) 1 c') 0 3 := F5.same (n6 _ (ne_of_types F5 hcur (by decide)))
  have V6 : ViewAt W6 b1 alV := (n6 _ (ne_of_types V5 hcur (by decide))).trans V5
  have rg : r ≠ gx := by omega
  have g6 := (n6 r rg).trans g5
  have B6 : Below w.heap.size w W6 := by
    rw [hW6]; exact B5.setCell (p := ⟨gx, ox, none⟩) (by show w.heap.size ≤ gx; omega) _
  have xa' : w5.cell? ⟨gx, ox, none⟩ = some (str [36]) := xa
  have hF6 := Lib.hid F6
  have hE6 := Lib.hid E6
  have hV6 := Lib.hid V6
  have hg6 := Lib.hid g6
  have hV5 := Lib.hid V5
  have hCUR := Lib.hid hcur
  have N6 := Lib.hid n6
  have HW6 := Lib.hid hW6
  obtain ⟨s0, s1, s2, t0, t1, t2⟩ := F5.cells
  obtain ⟨p0, p1, p2, q0, q1, q2⟩ := F4.cells
  clear F6 E6 V6 g6 V5 hcur n6 hW6 F5 F4 xa RS B5 g5
  go_upto_region 8 with fail
  rw [← HW6.out]
  clear s0 s1 s2 t0 t1 t2 p0 p1 p2 q0 q1 q2 xa' xb i5 v5
  obtain ⟨-, -, -, k3, k4, -, -⟩ := hV6.out.cells
  have f3 := frozen_of_row W6 b1 3 _ _ hV6.out
  have f4 := frozen_of_row W6 b1 4 _ _ hV6.out
  go_upto_region 9 with fail
  obtain ⟨W7, hW7⟩ : ∃ W7, W7 = (W6.setCell ⟨b1, 4, none⟩ (.string ⟨#[]⟩)).setCell ⟨b1, 3, none⟩ (.string ⟨#[114, 112, 114]⟩) := ⟨_, rfl⟩
  rw [← hW7]
  clear k3 k4 f3 f4
  have V7 : ViewAt W7 b1 alV2 := by rw [hW7]; exact hV6.out.set2 [] [114, 112, 114]
  have n7 : ∀ k, k ≠ b1 → W7.heap[k]? = W6.heap[k]? := fun k hk => by
    rw [hW7]; exact (heap_setCell_other _ _ _ _ hk).trans (heap_setCell_other _ _ _ _ hk)
  have m7 : ∀ k, k ≠ b1 → k ≠ gx → W7.heap[k]? = w5.heap[k]? := fun k h1 h2 => (n7 k h1).trans (N6.out k h2)
  have B7 : Below w.heap.size w W7 := by
    have hb1 : w.heap.size ≤ b1 := by rw [H1.out]; exact Nat.le_refl _
    rw [hW7]; exact (B6.setCell (p := ⟨b1, 4, none⟩) hb1 _).setCell (p := ⟨b1, 3, none⟩) hb1 _
  have F7 : FrB W7 b2 (.slice (some ⟨g, o, none⟩) 1 c) 0 3 := hF6.out.same (n7 _ (ne_of_types hF6.out hV6.out (by decide)))
  have E7 : FrB W7 b3 (.slice (some ⟨gv, ov, none⟩) 1 c') 0 3 := hE6.out.same (n7 _ (ne_of_types hE6.out hV6.out (by decide)))
  have g7 := (n7 r (ne_of_types hg6.out hV6.out (by decide))).trans hg6.out
  have e1 : g ≠ b1 := fun e => G5.out.out.ne_box hV5.out (by decide) (by rw [← e]; rfl)
  have e2 : g ≠ gx := fun e => G5.out.out.ne_box hCUR.out (by decide) (by rw [← e]; rfl)
  have e3 : gv ≠ b1 := fun e => R5.out.ne_box hV5.out (by decide) (by rw [← e]; rfl)
  have e4 : gv ≠ gx := fun e => R5.out.ne_box hCUR.out (by decide) (by rw [← e]; rfl)
  have e5 : r ≠ b1 := ne_of_types hg6.out hV6.out (by decide)
  have e6 : gx ≠ b1 := ne_of_types hCUR.out hV5.out (by decide)
  have G7 : FrG W7 0 [alRow] (.slice (some ⟨g, o, none⟩) 1 c) (rs.map (rowV alV.c)) := ⟨(G5.out.out.at_ (fun k hk => by cases hk; exact m7 g e1 e2)).mono (Nat.zero_le _), G5.out.len, fun k v l e f => by
    refine ((G5.out.row k v l e f).at_ fun j hj => ?_).mono (Nat.zero_le _)
    have hk0 : k = 0 := by have := (List.getElem?_eq_some_iff.1 f).1; simpa using this
    subst hk0
    rw [List.getElem?_map, HR.out] at e
    cases e
    cases hj
    exact m7 r e5 rg⟩
  have C7 : FrG W7 0 [⟨[120], 1, false⟩ :: alRow.tail] (.slice (some ⟨gv, ov, none⟩) 1 c') [.slice (some ⟨gx, ox, none⟩) 8 cx] := ⟨(R5.out.at_ (fun k hk => by cases hk; exact m7 gv e3 e4)).mono (Nat.zero_le _), rfl, fun k v l e f => by
    have hk0 : k = 0 := by have := (List.getElem?_eq_some_iff.1 f).1; simpa using this
    subst hk0
    cases e; cases f
    exact (RX6.out.at_ (fun j hj => by cases hj; exact n7 gx e6)).mono (Nat.zero_le _)⟩
  have SM2 := Lib.hid (fun (W : World) (h : Below W7.heap.size W7 W) => Same_calls18 W ⟨[alRow], 0, 3⟩ ⟨[⟨[120], 1, false⟩ :: alRow.tail], 0, 3⟩ _ _ _ _ (G7.later h) (C7.later h) (by decide) (by decide) (by decide) (by decide))
  rw [alRow_ne] at SM2
  unfold frV at SM2
  have i7 : W7.cell? ⟨g, o, none⟩ = some (.slice (some ⟨r, 0, none⟩) 8 8) := by
    obtain ⟨_, _, hv, _, _, hrd, _⟩ := G7.out.rd
    injection hv with q1 _ _
    subst q1
    obtain ⟨g', o', ea, hc⟩ := hrd 0 (rowV 8 r) (by rw [List.getElem?_map, HR.out]; rfl)
    cases ea
    exact hc
  have j0 : W7.cell? ⟨r, 0, none⟩ = some (.string ⟨#[36]⟩) := cell_of_row W7 r 0 _ _ (0, 0) g7
  have j1 : W7.cell? ⟨r, 21, none⟩ = some (.string ⟨#[226, 128, 166]⟩) := cell_of_row W7 r 21 _ _ (0, 0) g7
  have j2 : W7.cell? ⟨r, 22, none⟩ = some (.int .i64 1) := cell_of_row W7 r 22 _ _ (0, 0) g7
  have j3 : W7.cell? ⟨r, 23, none⟩ = some (.bool true) := cell_of_row W7 r 23 _ _ (0, 0) g7
  have hde : ∀ W, (binOp .eql 33 (.agg #[.string ⟨#[226, 128, 166]⟩, .int .i64 1, .bool true]) (.agg #[.string ⟨#[226, 128, 166]⟩, .int .i64 1, .bool true])).run Tryd.prog W = .ok (.bool true) W := fun W => (eq_cell dotsC dotsC W).trans (by rw [decide_eq_true rfl])
  have hV7 := Lib.hid V7
  have HB7 := Lib.hid B7
  obtain ⟨s0, s1, s2, t0, t1, t2⟩ := E7.cells
  obtain ⟨p0, p1, p2, q0, q1, q2⟩ := F7.cells
  clear hW7 n7 m7 N6 HW6 hV6 hV5 hF6 hE6 hg6 hCUR RX5 R5 G5 RX6 F7 E7 g7 G7 C7 V7 B7 B6 e1 e2 e3 e4 e5 e6 rg
  go_wp2_with fail
  refine (SM2.out _ (Below.refl _ _)).mono ?_
  rintro e w8 ⟨rfl, D8⟩
  have V8 : ViewAt w8 b1 alV2 := (D8.block _ (lt_of_heap hV7.out)).trans hV7.out
  have B8 := HB7.out.trans (D8.mono HB7.out.size)
  obtain ⟨v0, v1, v2, v3, v4, v5, v6⟩ := V8.cells
  clear i7 j0 j1 j2 j3 hde s0 s1 s2 t0 t1 t2 p0 p1 p2 q0 q1 q2 SM2 D8 V8 hV7
  go_wp2_with fail
  refine (Q2.out _ (hU.later B8)).mono ?_
  rintro e w9 ⟨rfl, D9⟩
  have B9 := B8.trans (D9.mono B8.size)
  clear v0 v1 v2 v3 v4 v5 v6
  go_wp2_with fail
  refine (Q3.out _ (hU.later B9)).mono ?_
  rintro e w10 ⟨rfl, D10⟩
  have B10 := B9.trans (D10.mono B9.size)
  go_wp2_with fail
  go_ret
  exact ⟨rfl, B10⟩
end Go.Proofs.YtfgjhfmgacopoaaDoor
