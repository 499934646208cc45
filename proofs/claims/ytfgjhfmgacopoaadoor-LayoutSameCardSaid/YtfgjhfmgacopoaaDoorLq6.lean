import Derived.Test.YtfgjhfmgacopoaaDoorLqm
import Derived.Test.YtfgjhfmgacopoaaDoorLp2
import Derived.Test.YtfgjhfmgacopoaaDoorLo18
import Derived.Deep.RegionHeld3
namespace Go.Proofs.YtfgjhfmgacopoaaDoor
set_option linter.unusedVariables false
set_option linter.unusedSimpArgs false
open Go.RowKit Go.Shelf
/-! Chapter 18: LayoutSame, walked. -/
set_option maxHeartbeats 4000000 in
set_option maxRecDepth 100000 in
theorem LayoutSame_walk (v u : ViewT) (hv : v.lens) (hu : u.lens) (w : World) (hU : U8 w) :
    Calls Tryd.prog 7 #[v.val, u.val] w fun e w' => e = .returned (.bool true) ∧ Below w.heap.size w w' := by
  have AL := Lib.hid (fun W (h : Below w.heap.size w W) => al18_calls W (hU.later h))
  have FV := Lib.hid (fun W => few18_calls v hv.1 hv.2.1 hv.2.2.1 hv.2.2.2 W)
  have FU := Lib.hid (fun W => few18_calls u hu.1 hu.2.1 hu.2.2.1 hu.2.2.2 W)
  have BB := Lib.hid (fun (x y : Array Value) => (show Below w.heap.size w ((w.alloc (.cells x 23)).alloc (.cells y 23)) from ((Below.refl _ w).alloc (Nat.le_refl _) _).alloc (by simp) _))
  by_cases hf : v.fewB = true
  · have hsv := fewB_small hf
    rw [hf] at FV
    by_cases hg : u.fewB = true
    · have hsu := fewB_small hg
      rw [hg] at FU
      clear hf hg hv hu
      unfold ViewT.val at FV FU ⊢
      go_enter Tryd.func7, Tryd.ntmps7
      go_wp2_with fail
      obtain ⟨W0, hW0⟩ : ∃ W0, W0 = (w.alloc (.cells #[.int .i64 v.rows, .int .i64 v.cols, str v.left, str v.right, str v.ghost, str v.text, .int .i64 v.at_] 23)).alloc (.cells #[.int .i64 u.rows, .int .i64 u.cols, str u.left, str u.right, str u.ghost, str u.text, .int .i64 u.at_] 23) := ⟨_, rfl⟩
      obtain ⟨b1, hb1⟩ : ∃ b, b = w.heap.size := ⟨_, rfl⟩
      obtain ⟨b2, hb2⟩ : ∃ b, b = w.heap.size + 1 := ⟨_, rfl⟩
      have V0 : RvAt W0 b1 v := by
        rw [hW0, hb1]
        have := heap_alloc_new w (.cells #[.int .i64 v.rows, .int .i64 v.cols, str v.left, str v.right, str v.ghost, str v.text, .int .i64 v.at_] 23)
        exact (Below.heap_alloc _ _ _ (by simp)).trans this
      have U0 : RvAt W0 b2 u := by
        rw [hW0, hb2]
        have := heap_alloc_new (w.alloc (.cells #[.int .i64 v.rows, .int .i64 v.cols, str v.left, str v.right, str v.ghost, str v.text, .int .i64 v.at_] 23)) (.cells #[.int .i64 u.rows, .int .i64 u.cols, str u.left, str u.right, str u.ghost, str u.text, .int .i64 u.at_] 23)
        rw [World.size_alloc] at this
        exact this
      have B0 : Below w.heap.size w W0 := by rw [hW0]; exact BB.out _ _
      rw [← hW0, ← hb2, ← hb1]
      clear hW0 hb1 hb2
      refine (FV.out W0).mono ?_
      rintro e w1 ⟨rfl, D1⟩
      have V1 : RvAt w1 b1 v := (D1.block _ (lt_of_heap V0)).trans V0
      have U1 : RvAt w1 b2 u := (D1.block _ (lt_of_heap U0)).trans U0
      have B1 := B0.trans (D1.mono B0.size)
      have HV1 := Lib.hid V1
      have HU1 := Lib.hid U1
      obtain ⟨c0, c1, c2, c3, c4, c5, c6⟩ := U1.cells
      clear V0 U0 B0 D1 V1 U1
      go_wp2_with fail
      refine (FU.out w1).mono ?_
      rintro e w2 ⟨rfl, D2⟩
      have V2 : RvAt w2 b1 v := (D2.block _ (lt_of_heap HV1.out)).trans HV1.out
      have U2 : RvAt w2 b2 u := (D2.block _ (lt_of_heap HU1.out)).trans HU1.out
      have B2 := B1.trans (D2.mono B1.size)
      have HV2 := Lib.hid V2
      have HU2 := Lib.hid U2
      clear c0 c1 c2 c3 c4 c5 c6 D2 HV1 HU1 B1
      obtain ⟨c0, c1, c2, c3, c4, c5, c6⟩ := U2.cells
      obtain ⟨d0, d1, d2, d3, d4, d5, d6⟩ := V2.cells
      clear V2 U2
      go_wp2_with fail
      obtain ⟨L, hL⟩ : ∃ L, L = v.of.rows := ⟨_, rfl⟩
      obtain ⟨M, hM⟩ : ∃ L, L = u.of.rows := ⟨_, rfl⟩
      obtain ⟨r1, hr1⟩ : ∃ r, r = v.of.row := ⟨_, rfl⟩
      obtain ⟨k1, hk1⟩ : ∃ r, r = v.of.col := ⟨_, rfl⟩
      obtain ⟨r2, hr2⟩ : ∃ r, r = u.of.row := ⟨_, rfl⟩
      obtain ⟨k2, hk2⟩ : ∃ r, r = u.of.col := ⟨_, rfl⟩
      have OA : ∀ W', Below w2.heap.size w2 W' → Calls Tryd.prog 11 #[v.val] W' fun e w' => ∃ x, e = .returned x ∧ IsFr w' x L r1 k1 ∧ Below W'.heap.size W' w' := fun W' h =>
        (LOf_fr v hsv W' (hU.later (B2.trans (h.mono B2.size))) hL hr1 hk1).mono fun e w' ⟨A, cp, vals, he, F, D⟩ => ⟨_, he, ⟨A, cp, vals, rfl, F.mono (Nat.zero_le _)⟩, D⟩
      have OB : ∀ W', Below w2.heap.size w2 W' → Calls Tryd.prog 11 #[u.val] W' fun e w' => ∃ x, e = .returned x ∧ IsFr w' x M r2 k2 ∧ Below W'.heap.size W' w' := fun W' h =>
        (LOf_fr u hsu W' (hU.later (B2.trans (h.mono B2.size))) hM hr2 hk2).mono fun e w' ⟨A, cp, vals, he, F, D⟩ => ⟨_, he, ⟨A, cp, vals, rfl, F.mono (Nat.zero_le _)⟩, D⟩
      refine region3 v u w2 b1 b2 HV2.out HU2.out L M r1 k1 r2 k2 OA OB _ rfl rfl rfl _ ?_
      intro a w3 hR
      have hfr := hR.frame rfl
      obtain ⟨A, cp, va, ea, FA⟩ := hR.l1 rfl
      obtain ⟨A2, cp2, vb, eb, FB⟩ := hR.l3 rfl
      obtain ⟨ba, e5, hba, X5⟩ := hR.l4 rfl
      obtain ⟨bb, e6, hbb, X6⟩ := hR.l5 rfl
      have hab : ba ≠ bb := fun e => hR.l45 rfl rfl (by rw [e5, e6, e])
      rw [if_pos (show (Array.replicate 8 true).getD 6 true = true from rfl), ea] at X5
      rw [if_pos (show (Array.replicate 8 true).getD 7 true = true from rfl), eb] at X6
      obtain ⟨x17, hx17⟩ : ∃ x, x = a.tmps[17]?.getD undef := ⟨_, rfl⟩
      obtain ⟨x19, hx19⟩ : ∃ x, x = a.tmps[19]?.getD undef := ⟨_, rfl⟩
      rw [ea, eb, e5, e6, ← hx17, ← hx19] at hfr
      have Y5 : FrB w3 ba (.slice A L.length cp) r1 k1 := X5
      have Y6 : FrB w3 bb (.slice A2 M.length cp2) r2 k2 := X6
      have V3 : RvAt w3 b1 v := (hR.bel.block _ (lt_of_heap HV2.out)).trans HV2.out
      have U3 : RvAt w3 b2 u := (hR.bel.block _ (lt_of_heap HU2.out)).trans HU2.out
      have B3 := B2.trans (hR.bel.mono B2.size)
      subst hfr
      clear X5 X6 e5 e6 ea eb hx17 hx19 hR OA OB c0 c1 c2 c3 c4 c5 c6 d0 d1 d2 d3 d4 d5 d6
      have HFA := Lib.hid FA
      have HFB := Lib.hid FB
      have HY5 := Lib.hid Y5
      have HY6 := Lib.hid Y6
      have HV3 := Lib.hid V3
      have HL := Lib.hid hL
      have HM := Lib.hid hM
      have HR1 := Lib.hid hr1
      have HK1 := Lib.hid hk1
      clear HV2 HU2 B2 FA FB V3 U3 hL hM hr1 hk1 hr2 hk2
      obtain ⟨y0, y1, y2, -, -, -⟩ := Y5.cells
      obtain ⟨z0, z1, z2, -, -, -⟩ := Y6.cells
      clear Y5 Y6
      go_wp2_with fail
      obtain ⟨fl1, fl2, fl3, fl4⟩ := v.of_facts
      obtain ⟨fm1, fm2, fm3, -⟩ := u.of_facts
      have fs := v.all_small
      rw [← HL.out] at fl1 fl2 fl3 fl4 fs
      rw [← HM.out] at fm1 fm2 fm3
      obtain ⟨l0, L', hl0⟩ : ∃ l0 L', L = l0 :: L' := by
        cases hq : L with
        | nil => rw [hq] at fl1; simp at fl1
        | cons a b => exact ⟨a, b, rfl⟩
      have hm0 : l0 ∈ L := by rw [hl0]; exact List.mem_cons_self ..
      obtain ⟨x0, l0', hx0⟩ : ∃ x l, l0 = x :: l := by
        cases hq : l0 with
        | nil => have := fl4 l0 hm0; rw [hq] at this; simp at this
        | cons a b => exact ⟨a, b, rfl⟩
      have hsx : x0.s.length ≤ 4800 := fs l0 hm0 x0 (by rw [hx0]; exact List.mem_cons_self ..)
      have l01 : 1 ≤ l0.length := fl4 l0 hm0
      have l02 : l0.length ≤ 120 := fl3 l0 hm0
      have CP := Lib.hid (Copy18_fr w3 L r1 k1 A cp va HFA.out fl2 fl3 hl0 (by omega))
      have HL0 := Lib.hid hl0
      have HX0 := Lib.hid hx0
      have FL3 := Lib.hid fl3
      have FM3 := Lib.hid fm3
      clear fs fl3 fl4 fm3 hl0 hx0 hm0
      refine CP.out.mono ?_
      rintro e w4 ⟨gc, oc, c4, gx, ox, cx, vc, rfl, FC, ic, hgx1, hgx2, RX, hnd, D4⟩
      have Y5 : FrB w4 ba (.slice A L.length cp) r1 k1 := (D4.block _ (lt_of_heap HY5.out)).trans HY5.out
      have Y6 : FrB w4 bb (.slice A2 M.length cp2) r2 k2 := (D4.block _ (lt_of_heap HY6.out)).trans HY6.out
      have V4 : RvAt w4 b1 v := (D4.block _ (lt_of_heap HV3.out)).trans HV3.out
      have B4 := B3.trans (D4.mono B3.size)
      have HFA4 := Lib.hid (HFA.out.later D4)
      have HFB4 := Lib.hid (HFB.out.later D4)
      have HFC4 := Lib.hid FC
      have HRX4 := Lib.hid RX
      have HND := Lib.hid hnd
      have HLT := Lib.hid (fun (k : Nat) (x : Value) (l : RowT) (e : va[k]? = some x) (f : L[k]? = some l) (j : Nat) (hj : x.ownBlock = some j) => ((HFA.out.row k x l e f).lt j hj).2)
      have hw3 := B3.size
      clear y0 y1 y2 z0 z1 z2 HY5 HY6 HV3 HFA HFB B3 D4 CP FC RX hnd
      go_upto_region 5 with fail
      obtain ⟨b7, hb7⟩ : ∃ b, b = w4.heap.size := ⟨_, rfl⟩
      obtain ⟨W5, hW5⟩ : ∃ W5, W5 = w4.alloc (.cells #[.slice (some ⟨gc, oc, none⟩) L.length c4, .int .i64 (r1 : Int), .int .i64 (k1 : Int)] 28) := ⟨_, rfl⟩
      have D5 : Below w4.heap.size w4 W5 := by rw [hW5]; exact (Below.refl _ _).alloc (Nat.le_refl _) _
      have X7 : FrB W5 b7 (.slice (some ⟨gc, oc, none⟩) L.length c4) r1 k1 := by rw [hW5, hb7]; exact heap_alloc_new w4 _
      have HY5 := Lib.hid (show FrB W5 ba (.slice A L.length cp) r1 k1 from (D5.block _ (lt_of_heap Y5)).trans Y5)
      have HY6 := Lib.hid (show FrB W5 bb (.slice A2 M.length cp2) r2 k2 from (D5.block _ (lt_of_heap Y6)).trans Y6)
      have HX7 := Lib.hid X7
      have HV5 := Lib.hid (show RvAt W5 b1 v from (D5.block _ (lt_of_heap V4)).trans V4)
      have HB5 := Lib.hid (B4.trans (D5.mono B4.size))
      have HFA5 := Lib.hid (HFA4.out.later D5)
      have HFB5 := Lib.hid (HFB4.out.later D5)
      have HFC5 := Lib.hid (HFC4.out.later D5).zero
      have HRX5 := Lib.hid (HRX4.out.later D5)
      have HIC := Lib.hid ((D5.cell (World.block_lt_of_cell? w4 _ ic)).trans ic)
      have hgx3 : gx < W5.heap.size := Nat.lt_of_lt_of_le hgx2 D5.size
      have hgc : gc < W5.heap.size := Nat.lt_of_lt_of_le (World.block_lt_of_cell? w4 _ ic) D5.size
      rw [← hW5, ← hb7]
      clear Y5 Y6 V4 B4 HFA4 HFB4 HFC4 HRX4 hW5 hb7 X7 D5 ic hgx2
      have CC := Lib.hid (fun (W : World) (h : Below W5.heap.size W5 W) => show Below W5.heap.size W5 W ∧ W.cell? ⟨ba, 0, none⟩ = some (.slice A L.length cp) ∧ W.cell? ⟨ba, 1, none⟩ = some (n64 r1) ∧ W.cell? ⟨ba, 2, none⟩ = some (n64 k1) ∧ W.cell? ⟨bb, 0, none⟩ = some (.slice A2 M.length cp2) ∧ W.cell? ⟨bb, 1, none⟩ = some (n64 r2) ∧ W.cell? ⟨bb, 2, none⟩ = some (n64 k2) ∧
          W.cell? ⟨b7, 0, none⟩ = some (.slice (some ⟨gc, oc, none⟩) L.length c4) ∧ W.cell? ⟨b7, 1, none⟩ = some (n64 r1) ∧ W.cell? ⟨b7, 2, none⟩ = some (n64 k1) ∧ W.cell? ⟨gc, oc, none⟩ = some (.slice (some ⟨gx, ox, none⟩) l0.length cx) from by
        obtain ⟨a0, a1, a2, -⟩ := FrB.cells ((h.block _ (lt_of_heap HY5.out)).trans HY5.out)
        obtain ⟨c0, c1, c2, -⟩ := FrB.cells ((h.block _ (lt_of_heap HY6.out)).trans HY6.out)
        obtain ⟨e0, e1, e2, -⟩ := FrB.cells ((h.block _ (lt_of_heap HX7.out)).trans HX7.out)
        exact ⟨h, a0, a1, a2, c0, c1, c2, e0, e1, e2, (h.cell (p := ⟨gc, oc, none⟩) hgc).trans HIC.out⟩)
      obtain ⟨q, hq⟩ : ∃ q, q = eqF ⟨L, r1, k1⟩ ⟨M, r2, k2⟩ := ⟨_, rfl⟩
      have heq : eqF ⟨L, r1, k1⟩ ⟨L, r1, k1⟩ = true := by simp [eqF]
      have S1 := Lib.hid (fun (W : World) (h : Below W5.heap.size W5 W) => Same18_fr W L L r1 k1 r1 k1 A (some ⟨gc, oc, none⟩) cp c4 va vc (HFA5.out.later h) (HFC5.out.later h) fl2 FL3.out fl2 FL3.out)
      rw [heq] at S1
      have S2 := Lib.hid (fun (W : World) (h : Below W5.heap.size W5 W) => Same18_fr W L M r1 k1 r2 k2 A A2 cp cp2 va vb (HFA5.out.later h) (HFB5.out.later h) fl2 FL3.out fm2 FM3.out)
      have O1 := Lib.hid (fun (W : World) (h : Below W5.heap.size W5 W) => Old18_fr W L r1 k1 A cp va (HFA5.out.later h) fl2 FL3.out)
      have O2 := Lib.hid (fun (W : World) (h : Below W5.heap.size W5 W) => Old18_fr W M r2 k2 A2 cp2 vb (HFB5.out.later h) fm2 FM3.out)
      have S3 := Lib.hid (fun (W : World) A A2 cp cp2 vs us h g => rSame18_fr W L M r1 k1 r2 k2 A A2 cp cp2 vs us h g fl2 FL3.out fm2 FM3.out)
      rw [← hq] at S2 S3
      have bq : (q != q) = false := by cases q <;> rfl
      have n0 : ((L.length : Int) == 0) = false := by rw [beq_eq_false_iff_ne]; omega
      have n1 : ((l0.length : Int) == 0) = false := by rw [beq_eq_false_iff_ne]; omega
      have n2 : (0 : Int) < (L.length : Int) := by omega
      have n3 : 0 < L.length := by omega
      have n4 : 0 < l0.length := by omega
      have hbd : Below W5.heap.size W5 W5.drew := (Below.refl _ _).drew
      have kk := CC.out _ hbd
      obtain ⟨-, t0, t1, t2, t3, t4, t5, t6, t7, t8, t9⟩ := kk
      clear hq heq
      go_region_held3 (fun w' => Below W5.heap.size W5 w' ∧ w'.cell? ⟨ba, 0, none⟩ = some (.slice A L.length cp) ∧ w'.cell? ⟨ba, 1, none⟩ = some (n64 r1) ∧ w'.cell? ⟨ba, 2, none⟩ = some (n64 k1) ∧ w'.cell? ⟨bb, 0, none⟩ = some (.slice A2 M.length cp2) ∧ w'.cell? ⟨bb, 1, none⟩ = some (n64 r2) ∧ w'.cell? ⟨bb, 2, none⟩ = some (n64 k2) ∧
          w'.cell? ⟨b7, 0, none⟩ = some (.slice (some ⟨gc, oc, none⟩) L.length c4) ∧ w'.cell? ⟨b7, 1, none⟩ = some (n64 r1) ∧ w'.cell? ⟨b7, 2, none⟩ = some (n64 k1) ∧ w'.cell? ⟨gc, oc, none⟩ = some (.slice (some ⟨gx, ox, none⟩) l0.length cx)) (exact CC.out _ (by assumption)) (first
        | (go_at_call 19; first
          | ((with_reducible refine (S1.out _ (by assumption)).mono ?_); rintro e w6 ⟨rfl, d6⟩; have h6 : Below W5.heap.size W5 w6 := Below.trans (by assumption) (d6.mono (Below.size (by assumption))))
          | ((with_reducible refine (S2.out _ (by assumption)).mono ?_); rintro e w7 ⟨rfl, d7⟩; have h7 : Below W5.heap.size W5 w7 := Below.trans (by assumption) (d7.mono (Below.size (by assumption))))
          | fail)
        | (go_at_call 21; first
          | ((with_reducible refine (O1.out _ (by assumption)).mono ?_); rintro e w8 ⟨A8, c8, vs8, rfl, R8, d8⟩; have h8 : Below W5.heap.size W5 w8 := Below.trans (by assumption) (d8.mono (Below.size (by assumption))))
          | ((with_reducible refine (O2.out _ (by assumption)).mono ?_); rintro e w9 ⟨A9, c9, vs9, rfl, R9, d9⟩; have h9 : Below W5.heap.size W5 w9 := Below.trans (by assumption) (d9.mono (Below.size (by assumption))))
          | fail)
        | (go_at_call 20; first
          | ((refine (S3.out w9 _ _ _ _ _ _ (R8.later d9) R9).mono ?_); rintro e w10 ⟨rfl, d10⟩; have h10 : Below W5.heap.size W5 w10 := h9.trans (d10.mono h9.size))
          | fail)
        | fail)
      rename_i hheld
      clear hheld
      obtain ⟨-, -, -, -, -, -, -, s6, s7, s8, s9⟩ := CC.out _ h10
      have B10 := HB5.out.trans (h10.mono HB5.out.size)
      have RX10 := HRX5.out.later h10
      have FC10 := HFC5.out.later h10
      have FA10 := HFA5.out.later h10
      have Y10 : FrB w10 ba (.slice A L.length cp) r1 k1 := (h10.block _ (lt_of_heap HY5.out)).trans HY5.out
      have X10 : FrB w10 b7 (.slice (some ⟨gc, oc, none⟩) L.length c4) r1 k1 := (h10.block _ (lt_of_heap HX7.out)).trans HX7.out
      have V10 : RvAt w10 b1 v := (h10.block _ (lt_of_heap HV5.out)).trans HV5.out
      obtain ⟨cur, hcur⟩ : ∃ cur, w10.heap[gx]? = some (.cells cur 33 (0, 0)) := by
        rcases RX10.2 with ⟨hv, _⟩ | ⟨g', o', cap, cur, hv, _, hg, _⟩
        · cases hv
        · cases hv; exact ⟨cur, hg⟩
      obtain ⟨xa, xb, RS⟩ := RX10.setS (by omega)
      obtain ⟨sx, hsx⟩ : ∃ s : ByteArray, s = ⟨x0.s.toArray⟩ := ⟨_, rfl⟩
      obtain ⟨sy, hsy⟩ : ∃ s : ByteArray, s = ⟨(x0.s ++ [120]).toArray⟩ := ⟨_, rfl⟩
      have xa' : w10.cell? ⟨gx, ox, none⟩ = some (.string sx) := by rw [xa, HX0.out, hsx]; rfl
      have hadd : ∀ W, (Op.stringOp .add sx ⟨#[120]⟩).run Tryd.prog W = .ok (.string sy) W := fun W => by
        rw [hsy]
        exact add_str hsx (show (⟨#[120]⟩ : ByteArray) = ⟨[120].toArray⟩ from rfl) (by simp; omega) W
      obtain ⟨W11, hW11⟩ : ∃ W11, W11 = w10.setCell ⟨gx, ox, none⟩ (.string sy) := ⟨_, rfl⟩
      obtain ⟨L2, hL2⟩ : ∃ L2 : List RowT, L2 = (⟨x0.s ++ [120], x0.wd, x0.dim⟩ :: l0') :: L' := ⟨_, rfl⟩
      have hlen2 : L2.length = L.length := by rw [hL2, HL0.out]; rfl
      have n11 : ∀ k, k ≠ gx → W11.heap[k]? = w10.heap[k]? := fun k hk => by rw [hW11]; exact heap_setCell_other _ _ _ _ hk
      have RX11 : Row W11 w3.heap.size 33 3 (.slice (some ⟨gx, ox, none⟩) l0.length cx) l0.length (flatC (⟨x0.s ++ [120], x0.wd, x0.dim⟩ :: l0')) := by
        have := RS (.string sy)
        rw [← hW11, HX0.out, hsy] at this
        rw [HX0.out]
        exact this
      have FC11 : FrG W11 0 L2 (.slice (some ⟨gc, oc, none⟩) L2.length c4) vc := by
        rw [hlen2]
        refine ⟨?_, by rw [hlen2]; exact FC10.len, fun j x l e f => ?_⟩
        · rw [hlen2]; exact FC10.out.at_ fun k hk => n11 k (fun e => FC10.out.ne_box hcur (by decide) (by rw [← e]; exact hk))
        · cases j with
          | zero =>
            rw [hL2] at f
            cases f
            obtain ⟨_, _, hv9, _, _, hrd, _⟩ := FC10.out.rd
            injection hv9 with q1 _ _
            subst q1
            obtain ⟨g', o', ea', hc'⟩ := hrd 0 x e
            cases ea'
            rw [Nat.add_zero, s9] at hc'
            cases hc'
            have e9 : ((⟨x0.s ++ [120], x0.wd, x0.dim⟩ : CellT) :: l0').length = l0.length := by rw [HX0.out]; rfl
            rw [e9]
            exact RX11.mono (Nat.zero_le _)
          | succ j =>
            rw [hL2] at f
            have f' : L[j + 1]? = some l := by rw [HL0.out]; exact f
            have hr := FC10.row (j + 1) x l e f'
            exact hr.at_ fun b hb => n11 b (fun e' => by have := HND.out (j + 1) x e (by rw [← e']; exact hb); omega)
      have FA11 : FrG W11 0 L (.slice A L.length cp) va := by
        refine ⟨FA10.out.at_ fun k hk => n11 k (fun e => FA10.out.ne_box hcur (by decide) (by rw [← e]; exact hk)), FA10.len, fun j x l e f => ?_⟩
        have hr := FA10.row j x l e f
        exact hr.at_ fun b hb => n11 b (fun e' => by have := HLT.out j x l e f b hb; omega)
      have Y11 : FrB W11 ba (.slice A L.length cp) r1 k1 := Y10.same (n11 _ (ne_of_types Y10 hcur (by decide)))
      have X11 : FrB W11 b7 (.slice (some ⟨gc, oc, none⟩) L.length c4) r1 k1 := by exact X10.same (n11 _ (ne_of_types X10 hcur (by decide)))
      have V11 : RvAt W11 b1 v := (n11 _ (ne_of_types V10 hcur (by decide))).trans V10
      have B11 : Below w.heap.size w W11 := by rw [hW11]; exact B10.setCell (p := ⟨gx, ox, none⟩) (by show w.heap.size ≤ gx; omega) _
      have hne2 : eqF ⟨L, r1, k1⟩ ⟨L2, r1, k1⟩ = false := by
        unfold eqF
        have : ¬ L = L2 := by
          rw [HL0.out, HX0.out, hL2]
          intro e
          injection e with e _
          injection e with e _
          have := congrArg (fun c : CellT => c.s.length) e
          simp at this
        simp [this]
      have hL2c : ∀ l ∈ L2, l.length ≤ 120 := by
        rw [hL2]
        intro l hl
        rcases List.mem_cons.1 hl with e | e
        · subst e
          have := l02
          rw [HX0.out] at this
          simpa using this
        · exact FL3.out l (by rw [HL0.out]; exact List.mem_cons_of_mem _ e)
      have S4 := Lib.hid (fun (W : World) (h : Below W11.heap.size W11 W) => Same18_fr W L L2 r1 k1 r1 k1 A (some ⟨gc, oc, none⟩) cp c4 va vc (FA11.later h) (FC11.later h) fl2 FL3.out (by rw [hlen2]; exact fl2) hL2c)
      rw [hne2, hlen2] at S4
      clear hlen2
      obtain ⟨ga, oa, A1, c1, ea, i1, hga, RA1⟩ := FA11.at_row (k := 0) (l := l0) (by rw [HL0.out]; rfl)
      have O4 := Lib.hid (fun (W : World) (h : Below W11.heap.size W11 W) => Old17_calls W l0 (.slice A1 l0.length c1) (RA1.later h) (by omega))
      have OF := Lib.hid (fun (W : World) (h : Below W11.heap.size W11 W) => LOf_fr v hsv W (hU.later (B11.trans (h.mono B11.size))) HL.out HR1.out HK1.out)
      unfold ViewT.val at OF
      have O5 := Lib.hid (fun (W : World) A cp vals (h : FrG W 0 L (.slice A L.length cp) vals) => Old18_fr W L r1 k1 A cp vals h fl2 FL3.out)
      unfold frA at O5
      have S5 := Lib.hid (fun (W : World) A c A' c' (x : Row W 0 70 3 (.slice A l0.length c) l0.length (flatC l0)) (y : Row W 0 70 3 (.slice A' l0.length c') l0.length (flatC l0)) => rSame17_calls W l0 l0 (.slice A l0.length c) (.slice A' l0.length c') x y (by omega) (by omega))
      rw [decide_eq_true rfl] at S5
      have ALX := Lib.hid (fun (W : World) (h : Below W11.heap.size W11 W) => AL.out W (B11.trans (h.mono B11.size)))
      have HB11 := Lib.hid B11
      have HW11 := Lib.hid hW11
      subst ea
      have hy := lt_of_heap (show W11.heap[ba]? = _ from Y11)
      have CD := Lib.hid (fun (W : World) (h : Below W11.heap.size W11 W) => show Below W11.heap.size W11 W ∧ W.cell? ⟨ba, 0, none⟩ = some (.slice (some ⟨ga, oa, none⟩) L.length cp) ∧ W.cell? ⟨ba, 1, none⟩ = some (n64 r1) ∧ W.cell? ⟨ba, 2, none⟩ = some (n64 k1) ∧
          W.cell? ⟨b7, 0, none⟩ = some (.slice (some ⟨gc, oc, none⟩) L.length c4) ∧ W.cell? ⟨b7, 1, none⟩ = some (n64 r1) ∧ W.cell? ⟨b7, 2, none⟩ = some (n64 k1) ∧ W.cell? ⟨ga, oa, none⟩ = some (.slice A1 l0.length c1) ∧
          W.cell? ⟨b1, 0, none⟩ = some (.int .i64 v.rows) ∧ W.cell? ⟨b1, 1, none⟩ = some (.int .i64 v.cols) ∧ W.cell? ⟨b1, 2, none⟩ = some (str v.left) ∧ W.cell? ⟨b1, 3, none⟩ = some (str v.right) ∧ W.cell? ⟨b1, 4, none⟩ = some (str v.ghost) ∧ W.cell? ⟨b1, 5, none⟩ = some (str v.text) ∧ W.cell? ⟨b1, 6, none⟩ = some (.int .i64 v.at_) from by
        obtain ⟨a0, a1, a2, -⟩ := FrB.cells ((h.block _ hy).trans Y11)
        obtain ⟨e0, e1, e2, -⟩ := FrB.cells ((h.block _ (lt_of_heap X11)).trans X11)
        obtain ⟨g0, g1, g2, g3, g4, g5, g6⟩ := RvAt.cells ((h.block _ (lt_of_heap V11)).trans V11)
        exact ⟨h, a0, a1, a2, e0, e1, e2, (h.cell (p := ⟨ga, oa, none⟩) hga).trans i1, g0, g1, g2, g3, g4, g5, g6⟩)
      clear xa RS hW11 hsx hsy n11 RX11 FC11 FA11 Y11 X11 V11 B11 hne2 hL2c RA1 i1 RX10 FC10 FA10 Y10 X10 V10 B10 hcur S1 S2 S3 O1 O2 CC t0 t1 t2 t3 t4 t5 t6 t7 t8 t9 hL2 d6 d7 d8 d9 d10 h6 h7 h8 h9 h10 hbd R8 R9
      have hfld : ∀ (x y z : Value) (W : World), (Instr.field 46 (.agg #[x, y, z]) 0).run Tryd.prog W = .ok x W := fun _ _ _ _ => by kernel_rfl
      go_upto_region 8 with fail
      rw [← HW11.out]
      have hbd : Below W11.heap.size W11 W11.drew := (Below.refl _ _).drew
      obtain ⟨-, t0, t1, t2, t3, t4, t5, t6, t7, t8, t9, u1, u2, u3, u4⟩ := CD.out _ hbd
      clear s6 s7 s8 s9 xa' xb
      go_region_with (first
        | (go_at_call 10; (with_reducible refine (ALX.out _ (by assumption)).mono ?_); rintro e w12 ⟨rfl, d12⟩; have h12 : Below W11.heap.size W11 w12 := Below.trans (by assumption) (d12.mono (Below.size (by assumption))); obtain ⟨-, a120, a121, a122, a123, a124, a125, a126, a127, a128, a129, b120, b121, b122, b123⟩ := CD.out w12 h12)
        | (go_at_call 19; (with_reducible refine (S4.out _ (by assumption)).mono ?_); rintro e w13 ⟨rfl, d13⟩; have h13 : Below W11.heap.size W11 w13 := Below.trans (by assumption) (d13.mono (Below.size (by assumption))); obtain ⟨-, a130, a131, a132, a133, a134, a135, a136, a137, a138, a139, b130, b131, b132, b133⟩ := CD.out w13 h13)
        | (go_at_call 23; (with_reducible refine (O4.out _ (by assumption)).mono ?_); rintro e w14 ⟨A14, c14, rfl, R14, d14⟩; have h14 : Below W11.heap.size W11 w14 := Below.trans (by assumption) (d14.mono (Below.size (by assumption))); obtain ⟨-, a140, a141, a142, a143, a144, a145, a146, a147, a148, a149, b140, b141, b142, b143⟩ := CD.out w14 h14)
        | (go_at_call 11; (with_reducible refine (OF.out _ (by assumption)).mono ?_); rintro e w15 ⟨A15, c15, v15, rfl, F15, d15⟩; have h15 : Below W11.heap.size W11 w15 := Below.trans (by assumption) (d15.mono (Below.size (by assumption))))
        | (go_at_call 21; (with_reducible refine (O5.out w15 A15 c15 v15 F15.zero).mono ?_); rintro e w16 ⟨A16, c16, v16, rfl, R16, d16⟩; have h16 : Below W11.heap.size W11 w16 := h15.trans (d16.mono h15.size); obtain ⟨g16, o16, B16, e16, rfl, i16, j16, T16⟩ := R16.at_row (k := 0) (l := l0) (by rw [HL0.out]; rfl); have k16 : w16.cell? ⟨g16, o16, none⟩ = some (.slice B16 l0.length e16) := i16)
        | (go_at_call 22; (refine (S5.out w16 _ _ _ _ ((R14.later (d15.trans (d16.mono d15.size))).mono (Nat.zero_le _)) T16).mono ?_); rintro e w17 ⟨rfl, d17⟩; have h17 : Below W11.heap.size W11 w17 := h16.trans (d17.mono h16.size))
        | fail)
      all_goals
        go_wp2_with fail
        go_ret
        exact ⟨rfl, HB11.out.trans (h17.mono HB11.out.size)⟩
    · have hg : u.fewB = false := by simpa using hg
      rw [hg] at FU
      clear hf hg hv hu
      unfold ViewT.val at FV FU ⊢
      go_enter Tryd.func7, Tryd.ntmps7
      go_wp2_with fail
      obtain ⟨W0, hW0⟩ : ∃ W0, W0 = (w.alloc (.cells #[.int .i64 v.rows, .int .i64 v.cols, str v.left, str v.right, str v.ghost, str v.text, .int .i64 v.at_] 23)).alloc (.cells #[.int .i64 u.rows, .int .i64 u.cols, str u.left, str u.right, str u.ghost, str u.text, .int .i64 u.at_] 23) := ⟨_, rfl⟩
      obtain ⟨b2, hb2⟩ : ∃ b, b = w.heap.size + 1 := ⟨_, rfl⟩
      have U0 : RvAt W0 b2 u := by
        rw [hW0, hb2]
        have := heap_alloc_new (w.alloc (.cells #[.int .i64 v.rows, .int .i64 v.cols, str v.left, str v.right, str v.ghost, str v.text, .int .i64 v.at_] 23)) (.cells #[.int .i64 u.rows, .int .i64 u.cols, str u.left, str u.right, str u.ghost, str u.text, .int .i64 u.at_] 23)
        rw [World.size_alloc] at this
        exact this
      have B0 : Below w.heap.size w W0 := by rw [hW0]; exact BB.out _ _
      rw [← hW0, ← hb2]
      clear hW0 hb2
      refine (FV.out W0).mono ?_
      rintro e w1 ⟨rfl, D1⟩
      have U1 : RvAt w1 b2 u := (D1.block _ (lt_of_heap U0)).trans U0
      have B1 := B0.trans (D1.mono B0.size)
      obtain ⟨c0, c1, c2, c3, c4, c5, c6⟩ := U1.cells
      clear U0 B0 D1 U1
      go_wp2_with fail
      refine (FU.out w1).mono ?_
      rintro e w2 ⟨rfl, D2⟩
      have B2 := B1.trans (D2.mono B1.size)
      clear c0 c1 c2 c3 c4 c5 c6
      go_wp2_with fail
      refine (AL.out _ B2).mono ?_
      rintro e w3 ⟨rfl, D3⟩
      go_wp2_with fail
      go_ret
      exact ⟨rfl, B2.trans (D3.mono B2.size)⟩
  · have hf : v.fewB = false := by simpa using hf
    rw [hf] at FV
    clear hf hv hu
    unfold ViewT.val at FV ⊢
    go_enter Tryd.func7, Tryd.ntmps7
    go_wp2_with fail
    refine (FV.out _).mono ?_
    rintro e w1 ⟨rfl, D1⟩
    have B1 := (BB.out _ _).trans (D1.mono (BB.out _ _).size)
    go_wp2_with fail
    refine (AL.out _ B1).mono ?_
    rintro e w2 ⟨rfl, D2⟩
    go_wp2_with fail
    go_ret
    exact ⟨rfl, B1.trans (D2.mono B1.size)⟩
end Go.Proofs.YtfgjhfmgacopoaaDoor
