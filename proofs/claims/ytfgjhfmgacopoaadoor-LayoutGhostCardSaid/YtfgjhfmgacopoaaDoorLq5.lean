import Derived.Test.YtfgjhfmgacopoaaDoorLqf
import Derived.Test.YtfgjhfmgacopoaaDoorLp2
import Derived.StillTailTactics
namespace Go.Proofs.YtfgjhfmgacopoaaDoor
set_option linter.unusedVariables false
set_option linter.unusedSimpArgs false
open Go.RowKit Go.Shelf
/-! Chapter 18: LayoutGhost, walked. -/
theorem neq_cell (a b : CellT) (W : World) : (binOp .neq 33 (aggC a) (aggC b)).run Tryd.prog W = .ok (.bool (!decide (a = b))) W := by
  obtain ⟨f, g, k, hfg, hf, hg, hk⟩ : ∃ f g k : Field, (Tryd.prog.fieldsOf 33).toList = [f, g, k] ∧ (f.type = 9 ∧ f.offset = 0 ∧ f.name = "S") ∧ (g.type = 3 ∧ g.offset = 1 ∧ g.name = "Wide") ∧ (k.type = 4 ∧ k.offset = 2 ∧ k.name = "Dim") := ⟨⟨"S", 9, 0, false, "", "", 0⟩, ⟨"Wide", 3, 1, false, "", "", 16⟩, ⟨"Dim", 4, 2, false, "", "", 24⟩, by kernel_rfl, ⟨rfl, rfl, rfl⟩, ⟨rfl, rfl, rfl⟩, ⟨rfl, rfl, rfl⟩⟩
  unfold aggC cellV
  rw [run_neq_struct, run_equalIn_agg W 9999 _ _ _ (by kernel_rfl) (by kernel_rfl), hfg, eq_fields3 f g k ⟨hf.1, hf.2.1, by rw [hf.2.2]; decide⟩ ⟨hg.1, hg.2.1, by rw [hg.2.2]; decide⟩ ⟨hk.1, hk.2.1, by rw [hk.2.2]; decide⟩ Tryd.underlying9 Tryd.underlying3 Tryd.underlying4]
  rw [← cell_beq]
  rfl
/-- A frame with its ghost, and without, cell by cell. -/
theorem ViewT.ghost_of (v : ViewT) : v.noGhost.of.row = v.of.row ∧ v.noGhost.of.col = v.of.col ∧ v.noGhost.of.rows.length = v.of.rows.length ∧
    ∀ k l m, v.of.rows[k]? = some l → v.noGhost.of.rows[k]? = some m → l.length = m.length ∧ ∀ j x y, l[j]? = some x → m[j]? = some y →
      (x = y ∨ (k = v.of.row ∧ v.of.col ≤ j ∧ (x.dim = true ∨ v.noGhost.isR = true))) ∧ (x.dim = true → k = v.of.row ∧ v.of.col ≤ j) := by
  have hl : v.noGhost.drawn.length = v.drawn.length := by rw [ViewT.drawn_len, ViewT.drawn_len]; rfl
  refine ⟨rfl, rfl, by rw [ViewT.of_len, ViewT.of_len, hl]; rfl, fun k l m h1 h2 => ?_⟩
  rw [v.of_row] at h1
  rw [v.noGhost.of_row] at h2
  have e1 : v.noGhost.n = v.n := rfl
  have e2 : v.noGhost.top = v.top := rfl
  rw [e1, e2] at h2
  by_cases hk : k < v.n
  · rw [if_pos hk] at h1 h2
    refine ⟨by rw [v.drawn_cols l (List.mem_of_getElem? h1), v.noGhost.drawn_cols m (List.mem_of_getElem? h2)]; rfl, fun j x y hx hy => ?_⟩
    obtain ⟨a, b⟩ := v.ghost_row h1 h2 hx hy
    have ht := v.top_le
    have hr : v.of.row = v.cursor.1 - v.top := rfl
    have hc : v.of.col = v.cursor.2 := rfl
    refine ⟨?_, fun hd => ?_⟩
    · rcases a with a | ⟨a1, a2, a3⟩
      · exact .inl a
      · exact .inr ⟨by omega, by omega, a3⟩
    · obtain ⟨b1, b2⟩ := b hd
      exact ⟨by omega, by omega⟩
  · rw [if_neg hk] at h1; cases h1
theorem RvAt.setG {w : World} {b : Nat} {v : ViewT} (h : RvAt w b v) : RvAt (w.setCell ⟨b, 4, none⟩ (.string ⟨#[]⟩)) b v.noGhost := heap_setCell_same w b 4 _ _ (str []) h
set_option maxHeartbeats 4000000 in
set_option maxRecDepth 100000 in
theorem LayoutGhost_walk (v : ViewT) (hv : v.lens) (w : World) (hU : U8 w) :
    Calls Tryd.prog 4 #[v.val] w fun e w' => e = .returned (.bool true) ∧ Below w.heap.size w w' := by
  have AL := Lib.hid (fun W (h : Below w.heap.size w W) => al18_calls W (hU.later h))
  have FW := Lib.hid (fun W => few18_calls v hv.1 hv.2.1 hv.2.2.1 hv.2.2.2 W)
  have B0 := Lib.hid (fun (x : Array Value) => (show Below w.heap.size w (w.alloc (.cells x 23)) from (Below.refl _ w).alloc (Nat.le_refl _) _))
  by_cases hf : v.fewB = true
  · have hsm := fewB_small hf
    have hsm2 : v.noGhost.small := by
      unfold ViewT.small at hsm ⊢
      show v.left.length + v.right.length + 0 + v.text.length ≤ 4000
      omega
    rw [hf] at FW
    obtain ⟨f1, f2, f3, f4⟩ := v.ghost_of
    obtain ⟨L, hL⟩ : ∃ L, L = v.of.rows := ⟨_, rfl⟩
    obtain ⟨M, hM⟩ : ∃ L, L = v.noGhost.of.rows := ⟨_, rfl⟩
    obtain ⟨row, hrow⟩ : ∃ r, r = v.of.row := ⟨_, rfl⟩
    obtain ⟨col, hcol⟩ : ∃ r, r = v.of.col := ⟨_, rfl⟩
    obtain ⟨ir, hir⟩ : ∃ r, r = v.noGhost.isR := ⟨_, rfl⟩
    have OA := Lib.hid (fun W (h : Below w.heap.size w W) => LOf_fr v hsm W (hU.later h) hL hrow hcol)
    have OB := Lib.hid (fun W (h : Below w.heap.size w W) => LOf_fr v.noGhost hsm2 W (hU.later h) hM (hrow.trans f1.symm) (hcol.trans f2.symm))
    have RI := Lib.hid (fun W (h : Below w.heap.size w W) => Right_calls18 v.noGhost hsm2 W (hU.later h))
    rw [← hir] at RI
    rw [← hL, ← hM] at f3
    rw [← hL, ← hM, ← hrow, ← hcol, ← hir] at f4
    have hL60 : L.length ≤ 60 := by rw [hL, v.of_len]; have := v.n_range; omega
    have hLc : ∀ l ∈ L, l.length ≤ 120 := by
      rw [hL]; intro l hl
      have := v.of_cols l hl
      have := v.c_range; omega
    have hg : v.noGhost.val = .agg #[.int .i64 v.rows, .int .i64 v.cols, str v.left, str v.right, .string ⟨#[]⟩, str v.text, .int .i64 v.at_] := rfl
    rw [hg] at OB RI
    have HLC := Lib.hid hLc
    have F3 := Lib.hid f3
    have F4 := Lib.hid f4
    clear f1 f2 f3 f4 hL hM hrow hcol hir hLc hg hf hv hsm hsm2
    unfold ViewT.val at FW OA ⊢
    go_enter Tryd.func4, Tryd.ntmps4
    go_wp2_with fail
    obtain ⟨W0, hW0⟩ : ∃ W0, W0 = w.alloc (.cells #[.int .i64 v.rows, .int .i64 v.cols, str v.left, str v.right, str v.ghost, str v.text, .int .i64 v.at_] 23) := ⟨_, rfl⟩
    obtain ⟨b1, hb1⟩ : ∃ b, b = w.heap.size := ⟨_, rfl⟩
    have V0 : RvAt W0 b1 v := by rw [hW0, hb1]; exact heap_alloc_new w _
    have BB : Below w.heap.size w W0 := by rw [hW0]; exact B0.out _
    rw [← hW0, ← hb1]
    clear hW0 hb1
    refine (FW.out W0).mono ?_
    rintro e w1 ⟨rfl, D1⟩
    have V1 : RvAt w1 b1 v := (D1.block _ (lt_of_heap V0)).trans V0
    have B1 : Below w.heap.size w w1 := BB.trans (D1.mono BB.size)
    have HV1 := Lib.hid V1
    obtain ⟨v0, v1, v2, v3, v4, v5, v6⟩ := V1.cells
    clear V0 BB D1 V1
    go_wp2_with fail
    refine (OA.out _ B1).mono ?_
    rintro e w2 ⟨A, cp, vals, rfl, RA, D2⟩
    have V2 : RvAt w2 b1 v := (D2.block _ (lt_of_heap HV1.out)).trans HV1.out
    have B2 := B1.trans (D2.mono B1.size)
    have HRA := Lib.hid RA
    clear v0 v1 v2 v3 v4 v5 v6 D2 RA B1 HV1
    go_upto_region 4 with fail
    obtain ⟨b3, hb3⟩ : ∃ b, b = w2.heap.size := ⟨_, rfl⟩
    obtain ⟨W3, hW3⟩ : ∃ W3, W3 = w2.alloc (.cells #[.slice A L.length cp, .int .i64 (row : Int), .int .i64 (col : Int)] 28) := ⟨_, rfl⟩
    have D3 : Below w2.heap.size w2 W3 := by rw [hW3]; exact (Below.refl _ _).alloc (Nat.le_refl _) _
    have X3 : FrB W3 b3 (.slice A L.length cp) row col := by rw [hW3, hb3]; exact heap_alloc_new w2 _
    have V3 : RvAt W3 b1 v := (D3.block _ (lt_of_heap V2)).trans V2
    have B3 := B2.trans (D3.mono B2.size)
    have HRA3 := Lib.hid (HRA.out.later D3)
    rw [← hW3, ← hb3]
    obtain ⟨v0, v1, v2, v3, v4, v5, v6⟩ := V3.cells
    have HX3 := Lib.hid X3
    clear hW3 hb3 D3 X3 V2 V3 B2 HRA
    go_upto_region 5 with fail
    obtain ⟨b4, hb4⟩ : ∃ b, b = W3.heap.size := ⟨_, rfl⟩
    obtain ⟨W4, hW4⟩ : ∃ W4, W4 = W3.alloc (.cells #[.int .i64 v.rows, .int .i64 v.cols, str v.left, str v.right, str v.ghost, str v.text, .int .i64 v.at_] 23) := ⟨_, rfl⟩
    have D4 : Below W3.heap.size W3 W4 := by rw [hW4]; exact (Below.refl _ _).alloc (Nat.le_refl _) _
    have V4 : RvAt W4 b4 v := by rw [hW4, hb4]; exact heap_alloc_new W3 _
    have X4 : FrB W4 b3 (.slice A L.length cp) row col := (D4.block _ (lt_of_heap HX3.out)).trans HX3.out
    have B4 := B3.trans (D4.mono B3.size)
    have HRA4 := Lib.hid (HRA3.out.later D4)
    have hb4w : w.heap.size ≤ b4 := by rw [hb4]; exact B3.size
    rw [← hW4, ← hb4]
    have fz := frozen_of_row W4 b4 4 _ _ V4
    clear v0 v1 v2 v3 v4 v5 v6
    obtain ⟨-, -, -, -, v4, -⟩ := V4.cells
    have HV4 := Lib.hid V4
    have HX4 := Lib.hid X4
    clear hW4 hb4 D4 V4 X4 B3 HX3 HRA3
    go_upto_region 6 with fail
    obtain ⟨W5, hW5⟩ : ∃ W5, W5 = W4.setCell ⟨b4, 4, none⟩ (.string ⟨#[]⟩) := ⟨_, rfl⟩
    rw [← hW5]
    have V5 : RvAt W5 b4 v.noGhost := by rw [hW5]; exact HV4.out.setG
    have B5 : Below w.heap.size w W5 := by rw [hW5]; exact B4.setCell (p := ⟨b4, 4, none⟩) hb4w _
    have n5 : ∀ k, k ≠ b4 → W5.heap[k]? = W4.heap[k]? := fun k hk => by rw [hW5]; exact heap_setCell_other _ _ _ _ hk
    have X5 : FrB W5 b3 (.slice A L.length cp) row col := HX4.out.same (n5 _ (ne_of_types HX4.out HV4.out (by decide)))
    have RA5 : FrG W5 0 L (.slice A L.length cp) vals := by
      refine ⟨(HRA4.out.out.at_ fun k hk => n5 k (fun e => HRA4.out.out.ne_box HV4.out (by decide) (by rw [← e]; exact hk))).mono (Nat.zero_le _), HRA4.out.len, fun k u l e f => ?_⟩
      have hR := HRA4.out.row k u l e f
      exact (hR.at_ fun j hj => n5 j (fun e => hR.ne_box HV4.out (by decide) (by rw [← e]; exact hj))).mono (Nat.zero_le _)
    have HV5 := Lib.hid V5
    have HX5 := Lib.hid X5
    have HRA5 := Lib.hid RA5
    clear v4 fz hW5 HV4 B4 n5 HX4 HRA4 X5 RA5
    obtain ⟨v0, v1, v2, v3, v4, v5, v6⟩ := V5.cells
    clear V5
    unfold ViewT.noGhost at v0 v1 v2 v3 v4 v5 v6
    dsimp only at v0 v1 v2 v3 v4 v5 v6
    go_wp2_with fail
    refine (OB.out _ B5).mono ?_
    rintro e w6 ⟨Ab, cb, vb, rfl, RB, D6⟩
    have V6 : RvAt w6 b4 v.noGhost := (D6.block _ (lt_of_heap HV5.out)).trans HV5.out
    have X6 : FrB w6 b3 (.slice A L.length cp) row col := (D6.block _ (lt_of_heap HX5.out)).trans HX5.out
    have B6 := B5.trans (D6.mono B5.size)
    have HRA6 := Lib.hid (HRA5.out.later D6)
    have HRB6 := Lib.hid RB
    clear v0 v1 v2 v3 v4 v5 v6 D6 RB HX5 HRA5 HV5 B5
    go_upto_region 7 with fail
    obtain ⟨b5, hb5⟩ : ∃ b, b = w6.heap.size := ⟨_, rfl⟩
    obtain ⟨W7, hW7⟩ : ∃ W7, W7 = w6.alloc (.cells #[.slice Ab M.length cb, .int .i64 (row : Int), .int .i64 (col : Int)] 28) := ⟨_, rfl⟩
    have D7 : Below w6.heap.size w6 W7 := by rw [hW7]; exact (Below.refl _ _).alloc (Nat.le_refl _) _
    have X7 : FrB W7 b5 (.slice Ab M.length cb) row col := by rw [hW7, hb5]; exact heap_alloc_new w6 _
    have Y7 : FrB W7 b3 (.slice A L.length cp) row col := (D7.block _ (lt_of_heap X6)).trans X6
    have V7 : RvAt W7 b4 v.noGhost := (D7.block _ (lt_of_heap V6)).trans V6
    have HB7 := Lib.hid (B6.trans (D7.mono B6.size))
    have RA7 := Lib.hid (HRA6.out.later D7)
    have RB7 := Lib.hid ((HRB6.out.later D7).mono (Nat.zero_le _))
    rw [← hW7, ← hb5]
    obtain ⟨x0, x1, x2, -, -, -⟩ := X7.cells
    obtain ⟨y0, y1, y2, -, -, -⟩ := Y7.cells
    have HX7 := Lib.hid X7
    have HY7 := Lib.hid Y7
    have HV7 := Lib.hid V7
    have e1 : ((row : Int) != (row : Int)) = false := by simp
    have e2 : ((col : Int) != (col : Int)) = false := by simp
    have e3 : ((L.length : Int) != (M.length : Int)) = false := by rw [F3.out]; simp
    clear hW7 hb5 D7 X7 Y7 V7 V6 X6 B6 HRA6 HRB6
    go_wp2_with fail
    clear x0 x1 x2 y0 y1 y2 e1 e2 e3
    go_loopw [44] (fun u44 wr => ∃ k : Nat, u44 = n64 k ∧ k ≤ L.length ∧ Hid (Below W7.heap.size W7 wr)) (fun u44 _ => L.length - (intOf u44).toNat)
    case atStart => exact ⟨0, rfl, Nat.zero_le _, Lib.hid (Below.refl _ _)⟩
    case round =>
      obtain ⟨k, rfl, hk, hb⟩ := hrel
      have hbw := HB7.out.trans (hb.out.mono HB7.out.size)
      rename World => w8
      by_cases hlt : k < L.length
      · obtain ⟨l, hl⟩ : ∃ l, L[k]? = some l := ⟨_, List.getElem?_eq_getElem hlt⟩
        obtain ⟨m, hm⟩ : ∃ l, M[k]? = some l := ⟨_, List.getElem?_eq_getElem (by rw [F3.out]; exact hlt)⟩
        obtain ⟨hlm, hcell⟩ := F4.out k l m hl hm
        have hll := HLC.out l (List.mem_of_getElem? hl)
        obtain ⟨g1, o1, A1, c1, ea1, a1, h1, R1⟩ := (RA7.out.later hb.out).at_row hl
        obtain ⟨g2, o2, A2, c2, ea2, a2, h2, R2⟩ := (RB7.out.later hb.out).at_row hm
        subst ea1 ea2
        have X8 : FrB w8 b5 (.slice (some ⟨g2, o2, none⟩) M.length cb) row col := (hb.out.block _ (lt_of_heap HX7.out)).trans HX7.out
        have Y8 : FrB w8 b3 (.slice (some ⟨g1, o1, none⟩) L.length cp) row col := (hb.out.block _ (lt_of_heap HY7.out)).trans HY7.out
        have V8 : RvAt w8 b4 v.noGhost := (hb.out.block _ (lt_of_heap HV7.out)).trans HV7.out
        obtain ⟨x0, x1, x2, -, -, -⟩ := X8.cells
        obtain ⟨y0, y1, y2, -, -, -⟩ := Y8.cells
        have t1 : (k : Int) < (L.length : Int) := by omega
        have t2 : (k : Int) < (M.length : Int) := by rw [F3.out]; omega
        have t3 : ((l.length : Int) != (m.length : Int)) = false := by rw [hlm]; simp
        have HX8 := Lib.hid X8
        have HY8 := Lib.hid Y8
        have HV8 := Lib.hid V8
        have HR1 := Lib.hid R1
        have HR2 := Lib.hid R2
        have HC := Lib.hid hcell
        have HLM := Lib.hid hlm
        have HA1 := Lib.hid a1
        have HA2 := Lib.hid a2
        have HBW := Lib.hid hbw
        clear hl hm hlm hcell X8 Y8 V8 R1 R2 hbw
        go_wp2_with fail
        go_quiet (fail)
        rename_i nq
        obtain ⟨w9, hw9⟩ : ∃ W, W = w8.drewN nq := ⟨_, rfl⟩
        have D9 : Below w8.heap.size w8 w9 := by rw [hw9]; exact below_drewN w8 nq
        rw [← hw9]
        clear hw9 x0 x1 x2 y0 y1 y2 a1 a2
        have X9 := Lib.hid (show FrB w9 b5 _ row col from (D9.block _ (lt_of_heap HX8.out)).trans HX8.out)
        have Y9 := Lib.hid (show FrB w9 b3 _ row col from (D9.block _ (lt_of_heap HY8.out)).trans HY8.out)
        have V9 := Lib.hid (show RvAt w9 b4 v.noGhost from (D9.block _ (lt_of_heap HV8.out)).trans HV8.out)
        have R19 := Lib.hid (HR1.out.later D9)
        have R29 := Lib.hid (HR2.out.later D9)
        have A19 := Lib.hid ((D9.cell (p := ⟨g1, o1 + k, none⟩) h1).trans HA1.out)
        have A29 := Lib.hid ((D9.cell (p := ⟨g2, o2 + k, none⟩) h2).trans HA2.out)
        have HB9 := Lib.hid (hb.out.trans (D9.mono hb.out.size))
        have HB98 := Lib.hid D9
        have h29 : g2 < w9.heap.size := Nat.lt_of_lt_of_le h2 D9.size
        have y0 := Y9.out.cells.1
        have a1 := A19.out
        clear HX8 HY8 HV8 HR1 HR2 HA1 HA2 D9 h1 h2 t2 t3
        go_wp2_with fail
        clear y0 a1
        go_loopw [66] (fun u66 wx => ∃ j : Nat, u66 = n64 j ∧ j ≤ l.length ∧ Hid (Below w9.heap.size w9 wx)) (fun u66 _ => l.length - (intOf u66).toNat)
        case atStart => exact ⟨0, rfl, Nat.zero_le _, Lib.hid (Below.refl _ _)⟩
        case round =>
          obtain ⟨j, rfl, hj, hb2⟩ := hrel
          by_cases hjl : j < l.length
          · obtain ⟨x, hx⟩ : ∃ x, l[j]? = some x := ⟨_, List.getElem?_eq_getElem hjl⟩
            obtain ⟨y, hy⟩ : ∃ y, m[j]? = some y := ⟨_, List.getElem?_eq_getElem (by rw [← HLM.out]; exact hjl)⟩
            obtain ⟨hxy, hxd⟩ := HC.out j x y hx hy
            obtain ⟨g3, o3, e3, i0, i1, i2⟩ := (R19.out.later hb2.out).cell3 rfl hx
            obtain ⟨g4, o4, e4, j0, j1, j2⟩ := (R29.out.later hb2.out).cell3 rfl hy
            subst e3 e4
            have hne := fun W => neq_cell x y W
            unfold aggC cellV at hne
            obtain ⟨xs, xw, xd⟩ := x
            obtain ⟨ys, yw, yd⟩ := y
            dsimp only at hxy hxd hne i0 i1 i2 j0 j1 j2
            obtain ⟨sx, hsx⟩ : ∃ s : ByteArray, s = ⟨xs.toArray⟩ := ⟨_, rfl⟩
            obtain ⟨sy, hsy⟩ : ∃ s : ByteArray, s = ⟨ys.toArray⟩ := ⟨_, rfl⟩
            replace i0 : wr.cell? ⟨g3, o3 + j * 3, none⟩ = some (.string sx) := by rw [hsx]; exact i0
            replace j0 : wr.cell? ⟨g4, o4 + j * 3, none⟩ = some (.string sy) := by rw [hsy]; exact j0
            have HNE := Lib.hid (show ∀ W, (binOp .neq 33 (.agg #[.string sx, .int .i64 xw, .bool xd]) (.agg #[.string sy, .int .i64 yw, .bool yd])).run Tryd.prog W = .ok (.bool (!decide ((⟨xs, xw, xd⟩ : CellT) = ⟨ys, yw, yd⟩))) W by rw [hsx, hsy]; exact hne)
            have hyr : FrB wr b3 _ row col := (hb2.out.block _ (lt_of_heap Y9.out)).trans Y9.out
            obtain ⟨-, y1, y2, -, -, -⟩ := hyr.cells
            have ly := lt_of_heap (show wr.heap[b3]? = _ from hyr)
            have t2 : (j : Int) < (l.length : Int) := by omega
            have HXY := Lib.hid hxy
            have HXD := Lib.hid hxd
            have J0 := Lib.hid j0
            have J1 := Lib.hid j1
            have J2 := Lib.hid j2
            have lg4 := World.block_lt_of_cell? wr _ j0
            clear hx hy hxy hxd hne hsx hsy j0 j1 j2 hyr
            by_cases hkr : k = row
            · have r1 : ((k : Int) == (row : Int)) = true := by simp [hkr]
              by_cases hcj : col ≤ j
              · have r2 : decide ((col : Int) ≤ (j : Int)) = true := decide_eq_true (by omega)
                have r3 : decide (col ≤ j) = true := decide_eq_true hcj
                have r4 : (col : Int) ≤ (j : Int) := by omega
                clear hkr
                go_upto_region 18 with fail
                obtain ⟨b8, hb8⟩ : ∃ b, b = wr.heap.size := ⟨_, rfl⟩
                obtain ⟨W9, hW9⟩ : ∃ W, W = wr.alloc (.cells #[.string sx, .int .i64 xw, .bool xd] 33) := ⟨_, rfl⟩
                have D9 : Below wr.heap.size wr W9 := by rw [hW9]; exact (Below.refl _ _).alloc (Nat.le_refl _) _
                have K9 : W9.heap[b8]? = some (.cells #[.string sx, .int .i64 xw, .bool xd] 33 (0, 0)) := by rw [hW9, hb8]; exact heap_alloc_new wr _
                rw [← hW9, ← hb8]
                clear hW9 hb8 i0 i1 i2 y1 y2
                obtain ⟨k0, k1, k2, -, -, -⟩ := box_cells K9
                have j0 := (D9.cell (p := ⟨g4, o4 + j * 3, none⟩) lg4).trans J0.out
                have j1 := (D9.cell (p := ⟨g4, o4 + j * 3 + 1, none⟩) lg4).trans J1.out
                have j2 := (D9.cell (p := ⟨g4, o4 + j * 3 + 2, none⟩) lg4).trans J2.out
                have B9 : Below w9.heap.size w9 W9 := hb2.out.trans (D9.mono hb2.out.size)
                have a2 := (B9.cell (p := ⟨g2, o2 + k, none⟩) h29).trans A29.out
                have x9 : FrB W9 b5 _ row col := (B9.block _ (lt_of_heap X9.out)).trans X9.out
                have x0 := x9.cells.1
                have s1 : (k : Int) < (M.length : Int) := by rw [F3.out]; omega
                have s2 : (j : Int) < (m.length : Int) := by rw [← HLM.out]; omega
                have HB10 := Lib.hid B9
                have HK9 := Lib.hid K9
                clear D9 K9 B9 x9
                by_cases hxy : (⟨xs, xw, xd⟩ : CellT) = ⟨ys, yw, yd⟩
                · skip
                  have hne := HNE.out
                  rw [show (!decide ((⟨xs, xw, xd⟩ : CellT) = ⟨ys, yw, yd⟩)) = false from by rw [decide_eq_true hxy]; rfl] at hne
                  clear hxy
                  cases xd
                  · skip
                    go_quiet (fail)
                    rename Nat => nq2
                    have k9 : (W9.drewN nq2).cell? ⟨b8, 2, none⟩ = _ := k2
                    have B10 : Below w9.heap.size w9 (W9.drewN nq2) := HB10.out.trans ((below_drewN W9 nq2).mono HB10.out.size)
                    generalize W9.drewN nq2 = W10 at k9 B10 ⊢
                    clear hne k0 k1 k2 j0 j1 j2 a2 x0
                    have HB11 := Lib.hid B10
                    clear B10
                    go_wp2_with fail
                    go_roundw
                    case rel => exact ⟨j + 1, by go_num, by omega, HB11⟩
                    case measure => simp [intOf]; omega
                  · skip
                    go_quiet (fail)
                    rename Nat => nq2
                    have k9 : (W9.drewN nq2).cell? ⟨b8, 2, none⟩ = _ := k2
                    have B10 : Below w9.heap.size w9 (W9.drewN nq2) := HB10.out.trans ((below_drewN W9 nq2).mono HB10.out.size)
                    generalize W9.drewN nq2 = W10 at k9 B10 ⊢
                    clear hne k0 k1 k2 j0 j1 j2 a2 x0
                    have HB11 := Lib.hid B10
                    clear B10
                    go_wp2_with fail
                    go_roundw
                    case rel => exact ⟨j + 1, by go_num, by omega, HB11⟩
                    case measure => simp [intOf]; omega
                · have hor : xd = true ∨ ir = true := by
                    rcases HXY.out with h | ⟨_, _, h⟩
                    · exact absurd h hxy
                    · exact h
                  have hne := HNE.out
                  rw [show (!decide ((⟨xs, xw, xd⟩ : CellT) = ⟨ys, yw, yd⟩)) = true from by rw [decide_eq_false hxy]; rfl] at hne
                  clear hxy
                  cases xd
                  · have hir : ir = true := by simpa using hor
                    subst hir
                    clear hor
                    have v9 : RvAt W9 b4 v.noGhost := (HB10.out.block _ (lt_of_heap V9.out)).trans V9.out
                    obtain ⟨v0, v1, v2, v3, v4, v5, v6⟩ := v9.cells
                    unfold ViewT.noGhost at v0 v1 v2 v3 v4 v5 v6
                    dsimp only at v0 v1 v2 v3 v4 v5 v6
                    clear v9
                    go_still_tail 19, (by kernel_rfl)
                    change wpList _ _ _ _ _ W9.drew
                    have k9 : W9.drew.heap[b8]? = _ := HK9.out
                    have B10 : Below w9.heap.size w9 W9.drew := HB10.out.drew
                    generalize W9.drew = W10 at k9 B10 ⊢
                    clear hne k0 k1 k2 j0 j1 j2 a2 x0 v0 v1 v2 v3 v4 v5 v6
                    have HB11 := Lib.hid (HB7.out.trans ((hb.out.trans (HB98.out.mono hb.out.size)).mono HB7.out.size |>.trans (B10.mono (by have := hb.out.size; have := HB98.out.size; have := HB7.out.size; omega))))
                    have HB12 := Lib.hid B10
                    clear B10
                    have HK := Lib.hid k9
                    clear k9
                    go_wp2_with fail
                    refine (RI.out _ HB11.out).mono ?_
                    rintro e W11 ⟨rfl, D11⟩
                    have k9 : W11.cell? ⟨b8, 2, none⟩ = some (.bool false) := (box_cells ((D11.block _ (lt_of_heap HK.out)).trans HK.out)).2.2.1
                    have HB13 := Lib.hid (HB12.out.trans (D11.mono HB12.out.size))
                    clear D11
                    go_wp2_with fail
                    go_roundw
                    case rel => exact ⟨j + 1, by go_num, by omega, HB13⟩
                    case measure => simp [intOf]; omega
                  · clear hor
                    go_quiet (fail)
                    rename Nat => nq2
                    have k9 : (W9.drewN nq2).cell? ⟨b8, 2, none⟩ = _ := k2
                    have B10 : Below w9.heap.size w9 (W9.drewN nq2) := HB10.out.trans ((below_drewN W9 nq2).mono HB10.out.size)
                    generalize W9.drewN nq2 = W10 at k9 B10 ⊢
                    clear hne k0 k1 k2 j0 j1 j2 a2 x0
                    have HB11 := Lib.hid B10
                    clear B10
                    go_wp2_with fail
                    go_roundw
                    case rel => exact ⟨j + 1, by go_num, by omega, HB11⟩
                    case measure => simp [intOf]; omega
              · have r2 : decide ((col : Int) ≤ (j : Int)) = false := decide_eq_false (by omega)
                have r3 : decide (col ≤ j) = false := decide_eq_false hcj
                have r4 : ¬ (col : Int) ≤ (j : Int) := by omega
                have hxy : (⟨xs, xw, xd⟩ : CellT) = ⟨ys, yw, yd⟩ := by
                  rcases HXY.out with h | ⟨h1, h2, _⟩
                  · exact h
                  · omega
                have hxd : xd = false := by
                  cases xd
                  · rfl
                  · have := HXD.out rfl; omega
                subst hxd
                clear hkr
                go_upto_region 18 with fail
                obtain ⟨b8, hb8⟩ : ∃ b, b = wr.heap.size := ⟨_, rfl⟩
                obtain ⟨W9, hW9⟩ : ∃ W, W = wr.alloc (.cells #[.string sx, .int .i64 xw, .bool false] 33) := ⟨_, rfl⟩
                have D9 : Below wr.heap.size wr W9 := by rw [hW9]; exact (Below.refl _ _).alloc (Nat.le_refl _) _
                have K9 : W9.heap[b8]? = some (.cells #[.string sx, .int .i64 xw, .bool false] 33 (0, 0)) := by rw [hW9, hb8]; exact heap_alloc_new wr _
                rw [← hW9, ← hb8]
                clear hW9 hb8 i0 i1 i2 y1 y2
                obtain ⟨k0, k1, k2, -, -, -⟩ := box_cells K9
                have j0 := (D9.cell (p := ⟨g4, o4 + j * 3, none⟩) lg4).trans J0.out
                have j1 := (D9.cell (p := ⟨g4, o4 + j * 3 + 1, none⟩) lg4).trans J1.out
                have j2 := (D9.cell (p := ⟨g4, o4 + j * 3 + 2, none⟩) lg4).trans J2.out
                have B9 : Below w9.heap.size w9 W9 := hb2.out.trans (D9.mono hb2.out.size)
                have a2 := (B9.cell (p := ⟨g2, o2 + k, none⟩) h29).trans A29.out
                have x9 : FrB W9 b5 _ row col := (B9.block _ (lt_of_heap X9.out)).trans X9.out
                have x0 := x9.cells.1
                have s1 : (k : Int) < (M.length : Int) := by rw [F3.out]; omega
                have s2 : (j : Int) < (m.length : Int) := by rw [← HLM.out]; omega
                have HB10 := Lib.hid B9
                have HK9 := Lib.hid K9
                clear D9 K9 B9 x9
                have hne := HNE.out
                rw [show (!decide ((⟨xs, xw, false⟩ : CellT) = ⟨ys, yw, yd⟩)) = false from by rw [decide_eq_true hxy]; rfl] at hne
                clear hxy
                go_quiet (fail)
                rename Nat => nq2
                have k9 : (W9.drewN nq2).cell? ⟨b8, 2, none⟩ = _ := k2
                have B10 : Below w9.heap.size w9 (W9.drewN nq2) := HB10.out.trans ((below_drewN W9 nq2).mono HB10.out.size)
                generalize W9.drewN nq2 = W10 at k9 B10 ⊢
                clear hne k0 k1 k2 j0 j1 j2 a2 x0
                have HB11 := Lib.hid B10
                clear B10
                go_wp2_with fail
                go_roundw
                case rel => exact ⟨j + 1, by go_num, by omega, HB11⟩
                case measure => simp [intOf]; omega
            · have r1 : ((k : Int) == (row : Int)) = false := by simp; omega
              have hxy : (⟨xs, xw, xd⟩ : CellT) = ⟨ys, yw, yd⟩ := by
                rcases HXY.out with h | ⟨h1, h2, _⟩
                · exact h
                · omega
              have hxd : xd = false := by
                cases xd
                · rfl
                · have := HXD.out rfl; omega
              subst hxd
              clear hkr
              go_upto_region 18 with fail
              obtain ⟨b8, hb8⟩ : ∃ b, b = wr.heap.size := ⟨_, rfl⟩
              obtain ⟨W9, hW9⟩ : ∃ W, W = wr.alloc (.cells #[.string sx, .int .i64 xw, .bool false] 33) := ⟨_, rfl⟩
              have D9 : Below wr.heap.size wr W9 := by rw [hW9]; exact (Below.refl _ _).alloc (Nat.le_refl _) _
              have K9 : W9.heap[b8]? = some (.cells #[.string sx, .int .i64 xw, .bool false] 33 (0, 0)) := by rw [hW9, hb8]; exact heap_alloc_new wr _
              rw [← hW9, ← hb8]
              clear hW9 hb8 i0 i1 i2 y1 y2
              obtain ⟨k0, k1, k2, -, -, -⟩ := box_cells K9
              have j0 := (D9.cell (p := ⟨g4, o4 + j * 3, none⟩) lg4).trans J0.out
              have j1 := (D9.cell (p := ⟨g4, o4 + j * 3 + 1, none⟩) lg4).trans J1.out
              have j2 := (D9.cell (p := ⟨g4, o4 + j * 3 + 2, none⟩) lg4).trans J2.out
              have B9 : Below w9.heap.size w9 W9 := hb2.out.trans (D9.mono hb2.out.size)
              have a2 := (B9.cell (p := ⟨g2, o2 + k, none⟩) h29).trans A29.out
              have x9 : FrB W9 b5 _ row col := (B9.block _ (lt_of_heap X9.out)).trans X9.out
              have x0 := x9.cells.1
              have s1 : (k : Int) < (M.length : Int) := by rw [F3.out]; omega
              have s2 : (j : Int) < (m.length : Int) := by rw [← HLM.out]; omega
              have HB10 := Lib.hid B9
              have HK9 := Lib.hid K9
              clear D9 K9 B9 x9
              have hne := HNE.out
              rw [show (!decide ((⟨xs, xw, false⟩ : CellT) = ⟨ys, yw, yd⟩)) = false from by rw [decide_eq_true hxy]; rfl] at hne
              clear hxy
              go_quiet (fail)
              rename Nat => nq2
              have k9 : (W9.drewN nq2).cell? ⟨b8, 2, none⟩ = _ := k2
              have B10 : Below w9.heap.size w9 (W9.drewN nq2) := HB10.out.trans ((below_drewN W9 nq2).mono HB10.out.size)
              generalize W9.drewN nq2 = W10 at k9 B10 ⊢
              clear hne k0 k1 k2 j0 j1 j2 a2 x0
              have HB11 := Lib.hid B10
              clear B10
              go_wp2_with fail
              go_roundw
              case rel => exact ⟨j + 1, by go_num, by omega, HB11⟩
              case measure => simp [intOf]; omega
          · obtain rfl : j = l.length := by omega
            go_wp2_with fail
            go_roundw
            case rel => exact ⟨k + 1, by go_num, by omega, Lib.hid (HB9.out.trans (hb2.out.mono HB9.out.size))⟩
            case measure => simp [intOf]; omega
      · obtain rfl : k = L.length := by omega
        go_wp2_with fail
        refine (AL.out _ hbw).mono ?_
        rintro e w9 ⟨rfl, D9⟩
        go_wp2_with fail
        go_ret
        exact ⟨rfl, hbw.trans (D9.mono hbw.size)⟩
  · have hf : v.fewB = false := by simpa using hf
    rw [hf] at FW
    clear hf hv
    unfold ViewT.val at FW ⊢
    go_enter Tryd.func4, Tryd.ntmps4
    go_wp2_with fail
    refine (FW.out _).mono ?_
    rintro e w1 ⟨rfl, D1⟩
    have B1 := (B0.out _).trans (D1.mono (B0.out _).size)
    go_wp2_with fail
    refine (AL.out _ B1).mono ?_
    rintro e w2 ⟨rfl, D2⟩
    go_wp2_with fail
    go_ret
    exact ⟨rfl, B1.trans (D2.mono B1.size)⟩
end Go.Proofs.YtfgjhfmgacopoaaDoor
