import Derived.Test.YtfgjhfmgacopoaaDoorLo16
import Derived.Test.YtfgjhfmgacopoaaDoorLp2
import Derived.Test.YtfgjhfmgacopoaaDoorIn2
namespace Go.Proofs.YtfgjhfmgacopoaaDoor
set_option linter.unusedVariables false
set_option linter.unusedSimpArgs false
open Go.RowKit Go.Shelf
/-! Chapter 18: LayoutCells, walked. -/
def RvAt (w : World) (b : Nat) (v : ViewT) : Prop := w.heap[b]? = some (.cells v.cs 23 (0, 0))
theorem RvAt.cells {w : World} {b : Nat} {v : ViewT} (h : RvAt w b v) : w.cell? ⟨b, 0, none⟩ = some (.int .i64 v.rows) ∧ w.cell? ⟨b, 1, none⟩ = some (.int .i64 v.cols) ∧ w.cell? ⟨b, 2, none⟩ = some (str v.left) ∧
    w.cell? ⟨b, 3, none⟩ = some (str v.right) ∧ w.cell? ⟨b, 4, none⟩ = some (str v.ghost) ∧ w.cell? ⟨b, 5, none⟩ = some (str v.text) ∧ w.cell? ⟨b, 6, none⟩ = some (.int .i64 v.at_) := by
  have hb : w.heap[b]? = some (.cells v.cs 23 (0, 0)) := h
  simp [World.cell?, hb, ViewT.cs]
def ViewT.lens (v : ViewT) : Prop := v.left.length ≤ 140737488351232 ∧ v.right.length ≤ 140737488351232 ∧ v.ghost.length ≤ 140737488351232 ∧ v.text.length ≤ 140737488351232
set_option maxRecDepth 100000 in
theorem in_view {H : Type} {enc : TypeId × Value → H} {w : World} {r : Reach} {b0 : Nat} {v : Value} {d : DataW H} {p : List MemPlace} (hv : Value.okWide Tryd.prog w r b0 23 v) (h : DataW.Trod enc Tryd.prog w 0 (fun _ => true) true 23 v d p) (hz : ∀ n ∈ d.weights Tryd.prog 23, n ≤ reachBytes) :
    ∃ e : ViewT, v = e.val ∧ e.lens := by
  obtain ⟨xs, rfl, hsz, hf⟩ := in_struct Tryd.underlying23 (by kernel_rfl) (by kernel_rfl) hv h hz
  obtain ⟨xs⟩ := xs
  match xs, hsz with
  | [x0, x1, x2, x3, x4, x5, x6], _ =>
    obtain ⟨n, rfl, _⟩ := (hf 0 _ x0 rfl rfl).int Tryd.underlying3
    obtain ⟨c, rfl, _⟩ := (hf 1 _ x1 rfl rfl).int Tryd.underlying3
    obtain ⟨s2, rfl, h2⟩ := (hf 2 _ x2 rfl rfl).string Tryd.underlying9
    obtain ⟨s3, rfl, h3⟩ := (hf 3 _ x3 rfl rfl).string Tryd.underlying9
    obtain ⟨s4, rfl, h4⟩ := (hf 4 _ x4 rfl rfl).string Tryd.underlying9
    obtain ⟨s5, rfl, h5⟩ := (hf 5 _ x5 rfl rfl).string Tryd.underlying9
    obtain ⟨a, rfl, _⟩ := (hf 6 _ x6 rfl rfl).int Tryd.underlying3
    refine ⟨⟨n, c, s2.data.toList, s3.data.toList, s4.data.toList, s5.data.toList, a⟩, ?_, ?_⟩
    · show _ = Value.agg #[.int .i64 n, .int .i64 c, .string ⟨s2.data.toList.toArray⟩, .string ⟨s3.data.toList.toArray⟩, .string ⟨s4.data.toList.toArray⟩, .string ⟨s5.data.toList.toArray⟩, .int .i64 a]
      rw [ba_eq, ba_eq, ba_eq, ba_eq]
    · unfold ViewT.lens
      dsimp only
      rw [Array.length_toList, Array.length_toList, Array.length_toList, Array.length_toList]; exact ⟨h2, h3, h4, h5⟩
/-- Where the law asks nothing: 'alive' alone. -/
theorem fewB_small {v : ViewT} (h : v.fewB = true) : v.small := by
  unfold ViewT.fewB at h
  unfold ViewT.small
  simpa using h
set_option maxHeartbeats 4000000 in
set_option maxRecDepth 100000 in
theorem LayoutCells_walk (v : ViewT) (hv : v.lens) (w : World) (hU : U8 w) :
    Calls Tryd.prog 3 #[v.val] w fun e w' => e = .returned (.bool true) ∧ Below w.heap.size w w' := by
  have AL := Lib.hid (fun W (h : Below w.heap.size w W) => al18_calls W (hU.later h))
  have FW := Lib.hid (fun W => few18_calls v hv.1 hv.2.1 hv.2.2.1 hv.2.2.2 W)
  by_cases hf : v.fewB = true
  · have OF := Lib.hid (fun W (h : Below w.heap.size w W) => LOf_calls v (fewB_small hf) W (hU.later h))
    rw [hf] at FW
    clear hf hv
    obtain ⟨L, hL⟩ : ∃ L, L = v.of.rows := ⟨_, rfl⟩
    obtain ⟨row, hrow⟩ : ∃ r, r = v.of.row := ⟨_, rfl⟩
    obtain ⟨col, hcol⟩ : ∃ r, r = v.of.col := ⟨_, rfl⟩
    obtain ⟨cc, hcc⟩ : ∃ r, r = v.c := ⟨_, rfl⟩
    obtain ⟨nn, hnn⟩ : ∃ r, r = v.n := ⟨_, rfl⟩
    have hH : hasAt L (row, col) := by rw [hL, hrow, hcol]; exact v.of_has
    have hLn : L.length ≤ nn := by rw [hL, hnn, v.of_len]; exact Nat.min_le_left _ _
    have hLc : ∀ l ∈ L, l.length = cc := by rw [hL, hcc]; exact v.of_cols
    have hLo : ∀ l ∈ L, okR false l = true := by rw [hL]; exact v.of_ok
    have hcr := v.c_range
    have hnr := v.n_range
    rw [← hcc] at hcr
    rw [← hnn] at hnr
    obtain ⟨lr, xr, y1, y2, y3⟩ := hH
    have hr1 : row < L.length := (List.getElem?_eq_some_iff.1 y1).1
    have hr2 : col < cc := by rw [← hLc lr (List.mem_of_getElem? y1)]; exact (List.getElem?_eq_some_iff.1 y2).1
    have HLC := Lib.hid hLc
    have HLO := Lib.hid hLo
    have Y1 := Lib.hid y1
    have Y2 := Lib.hid y2
    have HL := Lib.hid hL
    have HRW := Lib.hid hrow
    have HCL := Lib.hid hcol
    have HCC := Lib.hid hcc
    have HNN := Lib.hid hnn
    clear hLc hLo y1 y2 hL hrow hcol hcc hnn
    unfold ViewT.val at FW OF ⊢
    go_enter Tryd.func3, Tryd.ntmps3
    go_wp2_with fail
    obtain ⟨W0, hW0⟩ : ∃ W0, W0 = w.alloc (.cells #[.int .i64 v.rows, .int .i64 v.cols, str v.left, str v.right, str v.ghost, str v.text, .int .i64 v.at_] 23) := ⟨_, rfl⟩
    obtain ⟨b1, hb1⟩ : ∃ b, b = w.heap.size := ⟨_, rfl⟩
    have V0 : RvAt W0 b1 v := by rw [hW0, hb1]; exact heap_alloc_new w _
    have B0 : Below w.heap.size w W0 := by rw [hW0]; exact (Below.refl _ w).alloc (Nat.le_refl _) _
    rw [← hW0, ← hb1]
    have H1 := Lib.hid hb1
    clear hW0 hb1
    refine (FW.out W0).mono ?_
    rintro e w1 ⟨rfl, D1⟩
    have V1 : RvAt w1 b1 v := (D1.block _ (lt_of_heap V0)).trans V0
    have B1 : Below w.heap.size w w1 := B0.trans (D1.mono B0.size)
    have hB1 := Lib.hid B1
    have hV1 := Lib.hid V1
    obtain ⟨v0, v1, v2, v3, v4, v5, v6⟩ := V1.cells
    clear V0 B0 D1 B1 V1
    go_wp2_with fail
    refine (OF.out _ hB1.out).mono ?_
    rintro e w2 ⟨vv, rs, rfl, R2, D2⟩
    have V2 : RvAt w2 b1 v := (D2.block _ (lt_of_heap hV1.out)).trans hV1.out
    have B2 : Below w.heap.size w w2 := hB1.out.trans (D2.mono hB1.out.size)
    have F2 := R2.frG v.c_range.2
    rw [← HL.out] at F2
    obtain ⟨vals, F2⟩ : ∃ vals, FrG w2 w1.heap.size L vv vals := ⟨_, F2⟩
    obtain ⟨A, cp, hvv, _⟩ := F2.out.rd
    subst hvv
    have F2 := Lib.hid F2
    clear R2 D2 v0 v1 v2 v3 v4 v5 v6
    unfold frV
    rw [← HRW.out, ← HCL.out]
    obtain ⟨b2, hb2⟩ : ∃ b, b = w2.heap.size := ⟨_, rfl⟩
    obtain ⟨W3, hW3⟩ : ∃ W3, W3 = w2.alloc (.cells #[.slice A L.length cp, .int .i64 (row : Int), .int .i64 (col : Int)] 28) := ⟨_, rfl⟩
    have D3 : Below w2.heap.size w2 W3 := by rw [hW3]; exact (Below.refl _ _).alloc (Nat.le_refl _) _
    have X3 : FrB W3 b2 (.slice A L.length cp) row col := by rw [hW3, hb2]; exact heap_alloc_new w2 _
    have V3 : RvAt W3 b1 v := (D3.block _ (lt_of_heap V2)).trans V2
    have B3 : Below w.heap.size w W3 := B2.trans (D3.mono B2.size)
    have F3 := Lib.hid (F2.out.later D3)
    have HW3 := Lib.hid hW3
    have HB2 := Lib.hid hb2
    have hX3 := Lib.hid X3
    have hV3 := Lib.hid V3
    have hB3 := Lib.hid B3
    clear D3 X3 V3 B3 F2 B2 V2 hb2 hW3
    go_upto_region 4 with fail
    rw [← HW3.out, ← HB2.out]
    obtain ⟨v0, v1, -, -, -, -, -⟩ := hV3.out.cells
    go_quiet (fail)
    rename_i nq
    have qn : Value.int .i64 (min (max v.rows 1) 60) = n64 nn := by rw [clamp_eq _ (by omega), HNN.out]; rfl
    have qc : Value.int .i64 (min (max v.cols 1) 120) = n64 cc := by rw [clamp_eq _ (by omega), HCC.out]; rfl
    rw [qn, qc]
    obtain ⟨W4, hW4⟩ : ∃ W4, W4 = W3.drewN nq := ⟨_, rfl⟩
    rw [← hW4]
    have X4 : FrB W4 b2 (.slice A L.length cp) row col := by rw [hW4]; exact hX3.out
    have B4 : Below w.heap.size w W4 := by rw [hW4]; exact hB3.out.trans ((below_drewN W3 nq).mono hB3.out.size)
    have D4 : Below W3.heap.size W3 W4 := by rw [hW4]; exact below_drewN W3 nq
    have F4 := F3.out.later D4
    have HX4 := Lib.hid X4
    have HB4 := Lib.hid B4
    have HF4 := Lib.hid F4
    obtain ⟨p0, p1, p2, q0, q1, q2⟩ := X4.cells
    obtain ⟨_, _, hv9, _, _, HRD, _⟩ := F4.out.rd
    injection hv9 with z1 z2 z3
    subst z1
    have HRD := Lib.hid HRD
    have r1 : 1 ≤ (L.length : Int) := by omega
    have r2 : (L.length : Int) ≤ (nn : Int) := by omega
    have r3 : 0 ≤ (row : Int) := by omega
    have r4 : (row : Int) < (L.length : Int) := by omega
    have r5 : (col : Int) < (cc : Int) := by omega
    have r6 : 0 ≤ (col : Int) := by omega
    clear D4 hW4 qn qc X4 B4 F4 v0 v1 F3 hX3 hB3 hV3 HW3 z2 z3 OF FW
    go_wp2_with fail
    go_loopw [63] (fun u63 wr => ∃ k : Nat, u63 = n64 k ∧ k ≤ L.length ∧ Hid (Below W4.heap.size W4 wr)) (fun u63 _ => L.length - (intOf u63).toNat)
    case atStart => exact ⟨0, rfl, Nat.zero_le _, Lib.hid (Below.refl _ _)⟩
    case round =>
      obtain ⟨k, rfl, hk, hb⟩ := hrel
      by_cases hlt : k < L.length
      · obtain ⟨l, hl⟩ : ∃ l, L[k]? = some l := ⟨_, List.getElem?_eq_getElem hlt⟩
        obtain ⟨vx, hvx⟩ : ∃ x, vals[k]? = some x := ⟨_, List.getElem?_eq_getElem (by rw [HF4.out.len]; exact hlt)⟩
        obtain ⟨g1, o1, rfl, a1⟩ := HRD.out.later hb.out k vx hvx
        have RX := HF4.out.row k vx l hvx hl
        have hlc := HLC.out l (List.mem_of_getElem? hl)
        have hlo := HLO.out l (List.mem_of_getElem? hl)
        obtain ⟨A1, c1, hv1, _⟩ := RX.rd
        subst hv1
        have RX := Lib.hid RX
        have t1 : (k : Int) < (L.length : Int) := by omega
        have t2 : ((l.length : Int) != (cc : Int)) = false := by simp; omega
        have HLO2 := Lib.hid hlo
        have HLC2 := Lib.hid hlc
        clear hl hvx hlc hlo
        go_wp2_with fail
        rename World => w5
        go_loopw [73] (fun u73 wx => ∃ j : Nat, u73 = n64 j ∧ j ≤ l.length ∧ Hid (Below w5.heap.size w5 wx)) (fun u73 _ => l.length - (intOf u73).toNat)
        case atStart => exact ⟨0, rfl, Nat.zero_le _, Lib.hid (Below.refl _ _)⟩
        case round =>
          obtain ⟨j, rfl, hj, hbx⟩ := hrel
          have hb2 := hb.out.trans (hbx.out.mono hb.out.size)
          have HBX2 := Lib.hid hb2
          by_cases hjl : j < l.length
          · obtain ⟨x, hx⟩ : ∃ x, l[j]? = some x := ⟨_, List.getElem?_eq_getElem hjl⟩
            obtain ⟨i1, i2, i3, i4, i5⟩ := okR_get l false HLO2.out j x hx
            have RW := Lib.hid (RX.out.later hb2)
            obtain ⟨g2, o2, e2, a2, a3, a4⟩ := RW.out.cell3 rfl hx
            subst e2
            have hg2 : g2 < wr.heap.size := World.block_lt_of_cell? wr _ a2
            obtain ⟨xs, xw, xd⟩ := x
            dsimp only at i1 i2 i3 i4 i5 a2 a3 a4
            obtain ⟨sx, hsx⟩ : ∃ s : ByteArray, s = ⟨xs.toArray⟩ := ⟨_, rfl⟩
            replace a2 : wr.cell? ⟨g2, o2 + j * 3, none⟩ = some (.string sx) := by rw [hsx]; exact a2
            have s1 : (j : Int) < (l.length : Int) := by omega
            have hz : ∀ (o : Obj) (b i : Nat), b < wr.heap.size → (wr.alloc o).cell? ⟨b, i, none⟩ = wr.cell? ⟨b, i, none⟩ := fun o b i h => (Below.cell ((Below.refl wr.heap.size wr).alloc (Nat.le_refl _) o) (p := ⟨b, i, none⟩) h)
            have HSX := Lib.hid hsx
            have HXX := Lib.hid hx
            clear hb2 hsx hx
            have HBX1 := Lib.hid hbx.out
            have cc1 : 1 ≤ (cc : Int) := by omega
            have cc2 : (cc : Int) ≤ 120 := by omega
            have l3 : l.length ≤ 120 := by have := HLC2.out; omega
            by_cases hj0 : j = 0
            · rw [if_pos hj0] at i1 i2
              have n1 : ¬ xw = 0 := fun e => by have := i1.1 e; simp at this
              have n2 : xs ≠ [] := fun e => by have := i2.1 e; simp at this
              have n3 := str_ne HSX.out n2
              have n4 : (!sx.toList.isEmpty) = true := by rw [n3]; rfl
              have jd1 : ¬ (0 : Int) < (j : Int) := by omega
              have jd2 : ¬ 0 < j := by omega
              clear hj0
              have hw : xw = 1 ∨ xw = 2 := by omega
              have h5 : xw = 2 → ((j : Int) == (cc : Int) - 1) = false := fun e => by have := i5 e; have := HLC2.out; simp; omega
              clear i1 i2 i3 i4 i5 n1 n2 hz
              rcases hw with rfl | rfl
              · clear h5
                go_wp2_with fail
                go_roundw
                case rel => exact ⟨j + 1, by go_num, by omega, Lib.hid (HBX1.out.alloc HBX1.out.size _)⟩
                case measure => simp [intOf]; omega
              · replace h5 := h5 rfl
                go_wp2_with fail
                go_roundw
                case rel => exact ⟨j + 1, by go_num, by omega, Lib.hid (HBX1.out.alloc HBX1.out.size _)⟩
                case measure => simp [intOf]; omega
            · rw [if_neg hj0] at i1 i2
              obtain ⟨i, hi⟩ : ∃ i, i = j - 1 := ⟨_, rfl⟩
              rw [← hi] at i1 i2
              have hil : i < l.length := by omega
              obtain ⟨y, hy⟩ : ∃ y, l[i]? = some y := ⟨_, List.getElem?_eq_getElem hil⟩
              rw [hy] at i1 i2
              obtain ⟨g3, o3, e3, -, a7, -⟩ := RW.out.cell3 rfl hy
              cases e3
              obtain ⟨ys, yw, yd⟩ := y
              dsimp only at a7
              simp only [Option.map_some, Option.some_beq_some, beq_iff_eq] at i1 i2
              have jp1 : (0 : Int) < (j : Int) := by omega
              have jp2 : 0 < j := by omega
              have jp3 : IntKind.i64.wrap ((j : Int) - 1) = (i : Int) := by rw [IntWalk.i64_in _ (by omega)]; omega
              have jp4 : (j : Int) - 1 = (i : Int) := by omega
              have s2 : (i : Int) < (l.length : Int) := by omega
              clear hy hj0 hi
              by_cases hy2 : yw = 2
              · have n1 : xw = 0 := i1.2 hy2
                have n2 : xs = [] := i2.2 hy2
                subst hy2 n1
                have hse : sx = ⟨#[]⟩ := by rw [HSX.out, n2]
                subst hse
                clear i1 i2 i3 i4 i5 n2 hz
                go_wp2_with fail
                go_roundw
                case rel => exact ⟨j + 1, by go_num, by omega, Lib.hid (HBX1.out.alloc HBX1.out.size _)⟩
                case measure => simp [intOf]; omega
              · have n1 : ¬ xw = 0 := fun e => hy2 (i1.1 e)
                have n2 : xs ≠ [] := fun e => hy2 (i2.1 e)
                have n3 := str_ne HSX.out n2
                have n4 : (!sx.toList.isEmpty) = true := by rw [n3]; rfl
                have hy3 : (yw == 2) = false := by simpa using hy2
                clear hy2
                have hw : xw = 1 ∨ xw = 2 := by omega
                have h5 : xw = 2 → ((j : Int) == (cc : Int) - 1) = false := fun e => by have := i5 e; have := HLC2.out; simp; omega
                clear i1 i2 i3 i4 i5 n1 n2 hz
                rcases hw with rfl | rfl
                · clear h5
                  go_wp2_with fail
                  go_roundw
                  case rel => exact ⟨j + 1, by go_num, by omega, Lib.hid (HBX1.out.alloc HBX1.out.size _)⟩
                  case measure => simp [intOf]; omega
                · replace h5 := h5 rfl
                  go_wp2_with fail
                  go_roundw
                  case rel => exact ⟨j + 1, by go_num, by omega, Lib.hid (HBX1.out.alloc HBX1.out.size _)⟩
                  case measure => simp [intOf]; omega
          · obtain rfl : j = l.length := by omega
            go_wp2_with fail
            go_roundw
            case rel => exact ⟨k + 1, by go_num, by omega, Lib.hid HBX2.out⟩
            case measure => simp [intOf]; omega
      · obtain rfl : k = L.length := by omega
        have hbw := HB4.out.trans (hb.out.mono HB4.out.size)
        obtain ⟨vx, hvx⟩ : ∃ x, vals[row]? = some x := ⟨_, List.getElem?_eq_getElem (by rw [HF4.out.len]; exact hr1)⟩
        obtain ⟨g2, o2, e2, a1⟩ := HRD.out.later hb.out row vx hvx
        cases e2
        have RX := ((HF4.out.row row vx lr hvx Y1.out).later hb.out)
        obtain ⟨A1, c1, hv1, _⟩ := RX.rd
        subst hv1
        obtain ⟨g3, o3, rfl, -, a7, -⟩ := RX.cell3 rfl Y2.out
        have X5 : FrB wr b2 (.slice (some ⟨g2, o2, none⟩) L.length cp) row col := (hb.out.block _ (lt_of_heap HX4.out)).trans HX4.out
        have hx1 := World.block_lt_of_cell? wr _ a1
        have hx2 := World.block_lt_of_cell? wr _ a7
        have hx3 := lt_of_heap (show wr.heap[b2]? = _ from X5)
        have hlrc : (lr.length : Int) = (cc : Int) := by rw [HLC.out lr (List.mem_of_getElem? Y1.out)]
        have hcl : (col : Int) < (lr.length : Int) := by omega
        have A1 := Lib.hid a1
        have A7 := Lib.hid a7
        have HX5 := Lib.hid X5
        have hbd : Below w.heap.size w wr.drew := hbw.drew
        have HBW := Lib.hid hbw
        clear p0 p1 p2 q0 q1 q2 hvx RX a1 a7 X5 hbw hlrc HX4 HF4 HRD HB4 hb
        go_wp2_with fail
        go_region_with ((go_at_call 10; (with_reducible refine (AL.out _ hbd).mono ?_); rintro e w9 ⟨rfl, D9⟩; have D9 : Below wr.heap.size wr w9 := (Below.refl wr.heap.size wr).drew.trans D9; have k0 : w9.cell? ⟨g2, o2 + row, none⟩ = _ := (D9.cell hx1).trans A1.out; have k1 := (D9.cell hx2).trans A7.out; obtain ⟨k2, k3, k4, -, -, -⟩ := FrB.cells ((D9.block _ hx3).trans HX5.out)))
        all_goals
          go_wp2_with fail
          go_ret
          exact ⟨rfl, HBW.out.trans (D9.mono HBW.out.size)⟩
  · have hf : v.fewB = false := by simpa using hf
    rw [hf] at FW
    clear hf hv
    unfold ViewT.val at FW ⊢
    go_enter Tryd.func3, Tryd.ntmps3
    go_wp2_with fail
    have B0 : Below w.heap.size w (w.alloc (.cells #[.int .i64 v.rows, .int .i64 v.cols, str v.left, str v.right, str v.ghost, str v.text, .int .i64 v.at_] 23)) := (Below.refl _ w).alloc (Nat.le_refl _) _
    refine (FW.out _).mono ?_
    rintro e w1 ⟨rfl, D1⟩
    have B1 := B0.trans (D1.mono B0.size)
    go_wp2_with fail
    refine (AL.out _ B1).mono ?_
    rintro e w2 ⟨rfl, D2⟩
    go_wp2_with fail
    go_ret
    exact ⟨rfl, B1.trans (D2.mono B1.size)⟩
end Go.Proofs.YtfgjhfmgacopoaaDoor
