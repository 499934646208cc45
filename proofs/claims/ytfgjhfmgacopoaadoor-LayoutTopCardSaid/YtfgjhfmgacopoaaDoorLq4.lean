import Derived.Test.YtfgjhfmgacopoaaDoorLqf
import Derived.Test.YtfgjhfmgacopoaaDoorLp4
import Derived.Deep.RegionHeld3
namespace Go.Proofs.YtfgjhfmgacopoaaDoor
set_option linter.unusedVariables false
set_option linter.unusedSimpArgs false
open Go.RowKit Go.Shelf
/-! Chapter 18: LayoutTop, walked. -/
theorem RvAt.setR {w : World} {b : Nat} {v : ViewT} (h : RvAt w b v) (n : Int) : RvAt (w.setCell ⟨b, 0, none⟩ (.int .i64 n)) b (v.rowsV n) := heap_setCell_same w b 0 _ _ (.int .i64 n) h
def ViewT.topB (v : ViewT) (rows : Int) : Bool := v.fewB && (decide (v.left.length + v.text.length ≤ 100) && (decide (2 ≤ v.cols) && (decide (1 ≤ rows) && decide (rows ≤ 60))))
set_option maxHeartbeats 4000000 in
set_option maxRecDepth 100000 in
theorem LayoutTop_walk (v : ViewT) (hv : v.lens) (rows : Int) (w : World) (hU : U8 w) :
    Calls Tryd.prog 8 #[v.val, .int .i64 rows] w fun e w' => e = .returned (.bool true) ∧ Below w.heap.size w w' := by
  have AL := Lib.hid (fun W (h : Below w.heap.size w W) => al18_calls W (hU.later h))
  have FW := Lib.hid (fun W => few18_calls v hv.1 hv.2.1 hv.2.2.1 hv.2.2.2 W)
  have B0 := Lib.hid (fun (x : Array Value) => (show Below w.heap.size w (w.alloc (.cells x 23)) from (Below.refl _ w).alloc (Nat.le_refl _) _))
  by_cases hf : v.fewB = true
  · have hsm := fewB_small hf
    rw [hf] at FW
    have sl := str_of v.left
    have st := str_of v.text
    have l1 : v.left.length ≤ 4000 ∧ v.text.length ≤ 4000 := by unfold ViewT.small at hsm; omega
    by_cases g1 : v.left.length + v.text.length ≤ 100
    · have i1 : (v.left.length : Int) + (v.text.length : Int) ≤ 100 := by omega
      by_cases g2 : 2 ≤ v.cols
      · by_cases g3 : 1 ≤ rows
        · by_cases g4 : rows ≤ 60
          · obtain ⟨f1, f2, f3, f4, f5, f6⟩ := top_facts v g2 g1 g3 g4
            obtain ⟨La, hLa⟩ : ∃ L, L = (v.rowsV 60).of.rows := ⟨_, rfl⟩
            obtain ⟨Lf, hLf⟩ : ∃ L, L = (v.rowsV rows).of.rows := ⟨_, rfl⟩
            obtain ⟨ra, hra⟩ : ∃ r, r = (v.rowsV 60).of.row := ⟨_, rfl⟩
            obtain ⟨rf, hrf⟩ : ∃ r, r = (v.rowsV rows).of.row := ⟨_, rfl⟩
            obtain ⟨ca, hca⟩ : ∃ r, r = (v.rowsV 60).of.col := ⟨_, rfl⟩
            obtain ⟨tp, htp⟩ : ∃ r, r = (v.rowsV rows).top := ⟨_, rfl⟩
            have hcf : (v.rowsV rows).of.col = ca := by rw [hca]; exact f2
            have hLa2 : La.length ≤ 60 := by rw [hLa, (v.rowsV 60).of_len]; have := (v.rowsV 60).n_range; omega
            have hLc : ∀ l ∈ Lf, l.length ≤ 120 := by
              rw [hLf]; intro l hl
              have := (v.rowsV rows).of_cols l hl
              have := (v.rowsV rows).c_range; omega
            rw [← hrf, ← htp, ← hra] at f1
            rw [← hLf, ← hLa, ← htp] at f3
            rw [← htp, ← hLa] at f4
            rw [← hrf, ← htp] at f5
            rw [← hLf, ← hLa, ← htp] at f6
            have OA := Lib.hid (fun W (h : Below w.heap.size w W) => LOf_fr (v.rowsV 60) hsm W (hU.later h) hLa hra hca)
            have OB := Lib.hid (fun W (h : Below w.heap.size w W) => LOf_fr (v.rowsV rows) hsm W (hU.later h) hLf hrf hcf.symm)
            have hv60 : (v.rowsV 60).val = .agg #[.int .i64 60, .int .i64 v.cols, str v.left, str v.right, str v.ghost, str v.text, .int .i64 v.at_] := rfl
            have hvrr : (v.rowsV rows).val = .agg #[.int .i64 rows, .int .i64 v.cols, str v.left, str v.right, str v.ghost, str v.text, .int .i64 v.at_] := rfl
            rw [hv60] at OA
            rw [hvrr] at OB
            clear hv60 hvrr
            have HLA := Lib.hid hLa
            have HLF := Lib.hid hLf
            have HRA := Lib.hid hra
            have HRF := Lib.hid hrf
            have HCA := Lib.hid hca
            have HCF := Lib.hid hcf
            have F6 := Lib.hid f6
            have HLC := Lib.hid hLc
            have k1 : (Lf.length : Int) ≤ rows := by omega
            have k2 : min rows ((La.length : Int) - (tp : Int)) = (Lf.length : Int) := f3.symm
            have k3 : IntKind.i64.wrap ((ra : Int) - (rf : Int)) = (tp : Int) := by rw [IntWalk.i64_in _ (by omega)]; omega
            have k4 : IntKind.i64.wrap ((La.length : Int) - (tp : Int)) = (La.length : Int) - (tp : Int) := IntWalk.i64_in _ (by omega)
            have k6 : 0 ≤ (tp : Int) := by omega
            have k9 : (Lf.length : Int) + (tp : Int) ≤ (La.length : Int) := by omega
            have hgt : (¬ (0 : Int) < (tp : Int)) ∨ ((0 : Int) < (tp : Int) ∧ IntKind.i64.wrap (rows - 1) = (rf : Int)) := by
              by_cases h : tp = 0
              · exact .inl (by omega)
              · have := f5 (by omega)
                exact .inr ⟨by omega, by rw [IntWalk.i64_in _ (by omega)]; omega⟩
            have K2 := Lib.hid k2
            have K3 := Lib.hid k3
            have K4 := Lib.hid k4
            have HGT := Lib.hid hgt
            clear hgt f1 f2 f3 f5 f6 k2 k3 k4 hLa hLf hra hrf hca hcf hLc
            skip
            clear g1 hf hv hsm htp
            unfold ViewT.val at FW ⊢
            go_enter Tryd.func8, Tryd.ntmps8
            go_wp2_with fail
            obtain ⟨W0, hW0⟩ : ∃ W0, W0 = w.alloc (.cells #[.int .i64 v.rows, .int .i64 v.cols, str v.left, str v.right, str v.ghost, str v.text, .int .i64 v.at_] 23) := ⟨_, rfl⟩
            obtain ⟨b1, hb1⟩ : ∃ b, b = w.heap.size := ⟨_, rfl⟩
            have V0 : RvAt W0 b1 v := by rw [hW0, hb1]; exact heap_alloc_new w _
            have BB : Below w.heap.size w W0 := by rw [hW0]; exact B0.out _
            rw [← hW0, ← hb1]
            have H1 := Lib.hid hb1
            clear hW0 hb1
            refine (FW.out W0).mono ?_
            rintro e w1 ⟨rfl, D1⟩
            have V1 : RvAt w1 b1 v := (D1.block _ (lt_of_heap V0)).trans V0
            have B1 : Below w.heap.size w w1 := BB.trans (D1.mono BB.size)
            have HV1 := Lib.hid V1
            obtain ⟨v0, v1, v2, -, -, v5, -⟩ := V1.cells
            clear V0 BB D1 V1
            have fz := frozen_of_row w1 b1 0 _ _ HV1.out
            go_upto_region 4 with fail
            obtain ⟨W2, hW2⟩ : ∃ W2, W2 = w1.setCell ⟨b1, 0, none⟩ (.int .i64 60) := ⟨_, rfl⟩
            rw [← hW2]
            have hb1 : w.heap.size ≤ b1 := by rw [H1.out]; exact Nat.le_refl _
            have V2 : RvAt W2 b1 (v.rowsV 60) := by rw [hW2]; exact HV1.out.setR 60
            have B2 : Below w.heap.size w W2 := by rw [hW2]; exact B1.setCell (p := ⟨b1, 0, none⟩) hb1 _
            have HV2 := Lib.hid V2
            clear v0 v1 v2 v5 fz hW2 HV1 B1
            obtain ⟨v0, v1, v2, v3, v4, v5, v6⟩ := V2.cells
            clear V2
            unfold ViewT.rowsV at v0 v1 v2 v3 v4 v5 v6
            dsimp only at v0 v1 v2 v3 v4 v5 v6
            go_wp2_with fail
            refine (OA.out _ B2).mono ?_
            rintro e w3 ⟨Aa, ca', va, rfl, RA, D3⟩
            have V3 : RvAt w3 b1 (v.rowsV 60) := (D3.block _ (lt_of_heap HV2.out)).trans HV2.out
            have B3 := B2.trans (D3.mono B2.size)
            have HRA3 := Lib.hid RA
            clear v0 v1 v2 v3 v4 v5 v6 D3 RA B2 HV2
            go_upto_region 5 with fail
            obtain ⟨b5, hb5⟩ : ∃ b, b = w3.heap.size := ⟨_, rfl⟩
            obtain ⟨W4, hW4⟩ : ∃ W4, W4 = w3.alloc (.cells #[.slice Aa La.length ca', .int .i64 (ra : Int), .int .i64 (ca : Int)] 28) := ⟨_, rfl⟩
            have D4 : Below w3.heap.size w3 W4 := by rw [hW4]; exact (Below.refl _ _).alloc (Nat.le_refl _) _
            have X4 : FrB W4 b5 (.slice Aa La.length ca') ra ca := by rw [hW4, hb5]; exact heap_alloc_new w3 _
            have V4 : RvAt W4 b1 (v.rowsV 60) := (D4.block _ (lt_of_heap V3)).trans V3
            have B4 := B3.trans (D4.mono B3.size)
            have HRA4 := Lib.hid (HRA3.out.later D4)
            rw [← hW4, ← hb5]
            have fz := frozen_of_row W4 b1 0 _ _ V4
            obtain ⟨v0, -⟩ := V4.cells
            have HX4 := Lib.hid X4
            have HV4 := Lib.hid V4
            clear hW4 hb5 D4 X4 V4 V3 B3 HRA3
            go_upto_region 6 with fail
            obtain ⟨W5, hW5⟩ : ∃ W5, W5 = W4.setCell ⟨b1, 0, none⟩ (.int .i64 rows) := ⟨_, rfl⟩
            rw [← hW5]
            have V5 : RvAt W5 b1 (v.rowsV rows) := by rw [hW5]; exact HV4.out.setR rows
            have B5 : Below w.heap.size w W5 := by rw [hW5]; exact B4.setCell (p := ⟨b1, 0, none⟩) hb1 _
            have n5 : ∀ k, k ≠ b1 → W5.heap[k]? = W4.heap[k]? := fun k hk => by rw [hW5]; exact heap_setCell_other _ _ _ _ hk
            have X5 : FrB W5 b5 (.slice Aa La.length ca') ra ca := HX4.out.same (n5 _ (ne_of_types HX4.out HV4.out (by decide)))
            have RA5 : FrG W5 0 La (.slice Aa La.length ca') va := by
              refine ⟨(HRA4.out.out.at_ fun k hk => n5 k (fun e => HRA4.out.out.ne_box HV4.out (by decide) (by rw [← e]; exact hk))).mono (Nat.zero_le _), HRA4.out.len, fun k u l e f => ?_⟩
              have hR := HRA4.out.row k u l e f
              exact (hR.at_ fun j hj => n5 j (fun e => hR.ne_box HV4.out (by decide) (by rw [← e]; exact hj))).mono (Nat.zero_le _)
            have HV5 := Lib.hid V5
            have HX5 := Lib.hid X5
            have HRA5 := Lib.hid RA5
            clear v0 fz hW5 HV4 B4 n5 HX4 HRA4 X5 RA5
            obtain ⟨v0, v1, v2, v3, v4, v5, v6⟩ := V5.cells
            clear V5
            unfold ViewT.rowsV at v0 v1 v2 v3 v4 v5 v6
            dsimp only at v0 v1 v2 v3 v4 v5 v6
            go_wp2_with fail
            refine (OB.out _ B5).mono ?_
            rintro e w6 ⟨Af, cf', vf, rfl, RF, D6⟩
            have X6 : FrB w6 b5 (.slice Aa La.length ca') ra ca := (D6.block _ (lt_of_heap HX5.out)).trans HX5.out
            have B6 := B5.trans (D6.mono B5.size)
            have HRA6 := Lib.hid (HRA5.out.later D6)
            have HRF6 := Lib.hid RF
            clear v0 v1 v2 v3 v4 v5 v6 D6 RF HX5 HRA5 HV5 B5
            go_upto_region 7 with fail
            obtain ⟨b6, hb6⟩ : ∃ b, b = w6.heap.size := ⟨_, rfl⟩
            obtain ⟨W7, hW7⟩ : ∃ W7, W7 = w6.alloc (.cells #[.slice Af Lf.length cf', .int .i64 (rf : Int), .int .i64 (ca : Int)] 28) := ⟨_, rfl⟩
            have D7 : Below w6.heap.size w6 W7 := by rw [hW7]; exact (Below.refl _ _).alloc (Nat.le_refl _) _
            have X7 : FrB W7 b6 (.slice Af Lf.length cf') rf ca := by rw [hW7, hb6]; exact heap_alloc_new w6 _
            have Y7 : FrB W7 b5 (.slice Aa La.length ca') ra ca := (D7.block _ (lt_of_heap X6)).trans X6
            have HB7 := Lib.hid (B6.trans (D7.mono B6.size))
            have RA7 := Lib.hid (HRA6.out.later D7)
            have RF7 := Lib.hid ((HRF6.out.later D7).mono (Nat.zero_le _))
            rw [← hW7, ← hb6]
            obtain ⟨x0, x1, x2, -, -, -⟩ := X7.cells
            obtain ⟨y0, y1, y2, -, -, -⟩ := Y7.cells
            have HX7 := Lib.hid X7
            have HY7 := Lib.hid Y7
            clear hW7 hb6 D7 X7 Y7 X6 B6 HRA6 HRF6
            have k2 := K2.out
            have k3 := K3.out
            have k4 := K4.out
            have hca : ((ca : Int) != (ca : Int)) = false := by simp
            have hlt2 : Hid (tp < La.length) := Lib.hid f4
            clear f4
            have hgt := HGT.out
            rcases hgt with gt1 | ⟨gt1, gt2⟩
            all_goals
              go_wp2_with fail
              clear k2 k3 k4 hca
              go_loopw [92] (fun u92 wr => ∃ k : Nat, u92 = n64 k ∧ k ≤ Lf.length ∧ Hid (Below W7.heap.size W7 wr)) (fun u92 _ => Lf.length - (intOf u92).toNat)
              case atStart => exact ⟨0, rfl, Nat.zero_le _, Lib.hid (Below.refl _ _)⟩
              case round =>
                obtain ⟨k, rfl, hk, hb⟩ := hrel
                have hbw := HB7.out.trans (hb.out.mono HB7.out.size)
                by_cases hlt : k < Lf.length
                · obtain ⟨l, hl⟩ : ∃ l, Lf[k]? = some l := ⟨_, List.getElem?_eq_getElem hlt⟩
                  have hla := F6.out k l hl
                  obtain ⟨g1, o1, A1, c1, e1, a1, h1, R1⟩ := (RF7.out.later hb.out).at_row hl
                  obtain ⟨g2, o2, A2, c2, e2, a2, h2, R2⟩ := (RA7.out.later hb.out).at_row hla
                  subst e1 e2
                  have hm := (List.getElem?_eq_some_iff.1 hla).1
                  obtain ⟨m, hm0⟩ : ∃ m, m = tp + k := ⟨_, rfl⟩
                  rw [← hm0] at hm a2
                  have hll : l.length ≤ 1000000 := by have := HLC.out l (List.mem_of_getElem? hl); omega
                  have q1 : IntKind.i64.wrap ((tp : Int) + (k : Int)) = (m : Int) := by rw [IntWalk.i64_in _ (by omega)]; omega
                  have q2 : (m : Int) < (La.length : Int) := by omega
                  have q3 : (k : Int) < (Lf.length : Int) := by omega
                  have q5 : decide (La.length ≤ m) = false := decide_eq_false (by omega)
                  have q6 : decide ((La.length : Int) ≤ (m : Int)) = false := decide_eq_false (by omega)
                  have O1 := Lib.hid (fun W (hW : Below wr.heap.size wr W) => Old17_calls W l (.slice A1 l.length c1) (R1.later hW) hll)
                  have O2 := Lib.hid (fun W (hW : Below wr.heap.size wr W) => Old17_calls W l (.slice A2 l.length c2) (R2.later hW) hll)
                  have SM := Lib.hid (fun W A c A' c' (x : Row W 0 70 3 (.slice A l.length c) l.length (flatC l)) (y : Row W 0 70 3 (.slice A' l.length c') l.length (flatC l)) => rSame17_calls W l l (.slice A l.length c) (.slice A' l.length c') x y hll hll)
                  rw [decide_eq_true rfl] at SM
                  have X9 : FrB wr b6 (.slice (some ⟨g1, o1, none⟩) Lf.length cf') rf ca := (hb.out.block _ (lt_of_heap HX7.out)).trans HX7.out
                  have Y9 : FrB wr b5 (.slice (some ⟨g2, o2, none⟩) La.length ca') ra ca := (hb.out.block _ (lt_of_heap HY7.out)).trans HY7.out
                  have yl := lt_of_heap (show wr.heap[b5]? = _ from Y9)
                  have y9 := Y9.cells.1
                  have YC := Lib.hid (fun (W : World) (hW : Below wr.heap.size wr W) => show W.cell? ⟨b5, 0, none⟩ = some (.slice (some ⟨g2, o2, none⟩) La.length ca') ∧ W.cell? ⟨g2, o2 + m, none⟩ = some (.slice A2 l.length c2) from ⟨(hW.cell (p := ⟨b5, 0, none⟩) yl).trans y9, (hW.cell (p := ⟨g2, o2 + m, none⟩) h2).trans a2⟩)
                  have hbd : Below wr.heap.size wr wr.drew := (Below.refl wr.heap.size wr).drew
                  obtain ⟨kd0, kd1⟩ := YC.out _ hbd
                  clear hl hla hm hm0 R1 R2 X9 Y9 y9 x0 x1 x2 y0 y1 y2
                  go_wp2_with fail
                  (go_region_held3 (fun w' => Below wr.heap.size wr w' ∧ w'.cell? ⟨b5, 0, none⟩ = some (.slice (some ⟨g2, o2, none⟩) La.length ca') ∧ w'.cell? ⟨g2, o2 + m, none⟩ = some (.slice A2 l.length c2)) (first | exact ⟨hbd, kd0, kd1⟩ | exact ⟨hb8, e0, e1⟩ | exact ⟨hb9, i0, i1⟩ | exact ⟨hb10, j0, j1⟩) (first
                    | (go_at_call 23; first
                      | ((with_reducible refine (O1.out _ (by assumption)).mono ?_); rintro e w8 ⟨A8, c8, rfl, R8, b8⟩; have hb8 : Below wr.heap.size wr w8 := Below.trans (by assumption) (b8.mono (Below.size (by assumption))); obtain ⟨e0, e1⟩ := YC.out w8 hb8)
                      | ((with_reducible refine (O2.out _ (by assumption)).mono ?_); rintro e w9 ⟨A9, c9, rfl, R9, b9⟩; have hb9 : Below wr.heap.size wr w9 := Below.trans (by assumption) (b9.mono (Below.size (by assumption))); obtain ⟨i0, i1⟩ := YC.out w9 hb9)
                      | fail)
                    | (go_at_call 22; first
                      | ((refine (SM.out w9 _ _ _ _ ((R8.later b9).mono (Nat.zero_le _)) (R9.mono (Nat.zero_le _))).mono ?_); rintro e w10 ⟨rfl, b10⟩; have hb10 : Below wr.heap.size wr w10 := hb9.trans (b10.mono hb9.size); obtain ⟨j0, j1⟩ := YC.out w10 hb10)
                      | ((refine (SM.out w8 _ _ _ _ (R8.mono (Nat.zero_le _)) ((R9.later b8).mono (Nat.zero_le _))).mono ?_); rintro e w10 ⟨rfl, b10⟩; have hb10 : Below wr.heap.size wr w10 := hb8.trans (b10.mono hb8.size); obtain ⟨j0, j1⟩ := YC.out w10 hb10)
                      | fail)
                    | fail))
                  all_goals
                    go_wp2_with fail
                    go_roundw
                    case rel => exact ⟨k + 1, by go_num, by omega, Lib.hid (hb.out.trans (hb10.mono hb.out.size))⟩
                    case measure => simp [intOf]; omega
                · obtain rfl : k = Lf.length := by omega
                  go_wp2_with fail
                  refine (AL.out _ hbw).mono ?_
                  rintro e w8 ⟨rfl, D8⟩
                  go_wp2_with fail
                  go_ret
                  exact ⟨rfl, hbw.trans (D8.mono hbw.size)⟩
          · have g5 : 60 < rows := by omega
            clear g4 g1 hf hv hsm
            unfold ViewT.val at FW ⊢
            go_enter Tryd.func8, Tryd.ntmps8
            go_wp2_with fail
            obtain ⟨W0, hW0⟩ : ∃ W0, W0 = w.alloc (.cells #[.int .i64 v.rows, .int .i64 v.cols, str v.left, str v.right, str v.ghost, str v.text, .int .i64 v.at_] 23) := ⟨_, rfl⟩
            obtain ⟨b1, hb1⟩ : ∃ b, b = w.heap.size := ⟨_, rfl⟩
            have V0 : RvAt W0 b1 v := by rw [hW0, hb1]; exact heap_alloc_new w _
            have BB : Below w.heap.size w W0 := by rw [hW0]; exact B0.out _
            rw [← hW0, ← hb1]
            have H1 := Lib.hid hb1
            clear hW0 hb1
            refine (FW.out W0).mono ?_
            rintro e w1 ⟨rfl, D1⟩
            have V1 : RvAt w1 b1 v := (D1.block _ (lt_of_heap V0)).trans V0
            have B1 : Below w.heap.size w w1 := BB.trans (D1.mono BB.size)
            have HV1 := Lib.hid V1
            obtain ⟨v0, v1, v2, -, -, v5, -⟩ := V1.cells
            clear V0 BB D1 V1
            go_wp2_with fail
            refine (AL.out _ B1).mono ?_
            rintro e w2 ⟨rfl, D2⟩
            go_wp2_with fail
            go_ret
            exact ⟨rfl, B1.trans (D2.mono B1.size)⟩
        · have g5 : rows < 1 := by omega
          clear g3 g1 hf hv hsm
          unfold ViewT.val at FW ⊢
          go_enter Tryd.func8, Tryd.ntmps8
          go_wp2_with fail
          obtain ⟨W0, hW0⟩ : ∃ W0, W0 = w.alloc (.cells #[.int .i64 v.rows, .int .i64 v.cols, str v.left, str v.right, str v.ghost, str v.text, .int .i64 v.at_] 23) := ⟨_, rfl⟩
          obtain ⟨b1, hb1⟩ : ∃ b, b = w.heap.size := ⟨_, rfl⟩
          have V0 : RvAt W0 b1 v := by rw [hW0, hb1]; exact heap_alloc_new w _
          have BB : Below w.heap.size w W0 := by rw [hW0]; exact B0.out _
          rw [← hW0, ← hb1]
          have H1 := Lib.hid hb1
          clear hW0 hb1
          refine (FW.out W0).mono ?_
          rintro e w1 ⟨rfl, D1⟩
          have V1 : RvAt w1 b1 v := (D1.block _ (lt_of_heap V0)).trans V0
          have B1 : Below w.heap.size w w1 := BB.trans (D1.mono BB.size)
          have HV1 := Lib.hid V1
          obtain ⟨v0, v1, v2, -, -, v5, -⟩ := V1.cells
          clear V0 BB D1 V1
          go_wp2_with fail
          refine (AL.out _ B1).mono ?_
          rintro e w2 ⟨rfl, D2⟩
          go_wp2_with fail
          go_ret
          exact ⟨rfl, B1.trans (D2.mono B1.size)⟩
      · have g5 : v.cols < 2 := by omega
        clear g2 g1 hf hv hsm
        unfold ViewT.val at FW ⊢
        go_enter Tryd.func8, Tryd.ntmps8
        go_wp2_with fail
        obtain ⟨W0, hW0⟩ : ∃ W0, W0 = w.alloc (.cells #[.int .i64 v.rows, .int .i64 v.cols, str v.left, str v.right, str v.ghost, str v.text, .int .i64 v.at_] 23) := ⟨_, rfl⟩
        obtain ⟨b1, hb1⟩ : ∃ b, b = w.heap.size := ⟨_, rfl⟩
        have V0 : RvAt W0 b1 v := by rw [hW0, hb1]; exact heap_alloc_new w _
        have BB : Below w.heap.size w W0 := by rw [hW0]; exact B0.out _
        rw [← hW0, ← hb1]
        have H1 := Lib.hid hb1
        clear hW0 hb1
        refine (FW.out W0).mono ?_
        rintro e w1 ⟨rfl, D1⟩
        have V1 : RvAt w1 b1 v := (D1.block _ (lt_of_heap V0)).trans V0
        have B1 : Below w.heap.size w w1 := BB.trans (D1.mono BB.size)
        have HV1 := Lib.hid V1
        obtain ⟨v0, v1, v2, -, -, v5, -⟩ := V1.cells
        clear V0 BB D1 V1
        go_wp2_with fail
        refine (AL.out _ B1).mono ?_
        rintro e w2 ⟨rfl, D2⟩
        go_wp2_with fail
        go_ret
        exact ⟨rfl, B1.trans (D2.mono B1.size)⟩
    · have t1 : (100 : Int) < (v.left.length : Int) + (v.text.length : Int) := by omega
      clear g1 hf hv hsm
      unfold ViewT.val at FW ⊢
      go_enter Tryd.func8, Tryd.ntmps8
      go_wp2_with fail
      obtain ⟨W0, hW0⟩ : ∃ W0, W0 = w.alloc (.cells #[.int .i64 v.rows, .int .i64 v.cols, str v.left, str v.right, str v.ghost, str v.text, .int .i64 v.at_] 23) := ⟨_, rfl⟩
      obtain ⟨b1, hb1⟩ : ∃ b, b = w.heap.size := ⟨_, rfl⟩
      have V0 : RvAt W0 b1 v := by rw [hW0, hb1]; exact heap_alloc_new w _
      have BB : Below w.heap.size w W0 := by rw [hW0]; exact B0.out _
      rw [← hW0, ← hb1]
      have H1 := Lib.hid hb1
      clear hW0 hb1
      refine (FW.out W0).mono ?_
      rintro e w1 ⟨rfl, D1⟩
      have V1 : RvAt w1 b1 v := (D1.block _ (lt_of_heap V0)).trans V0
      have B1 : Below w.heap.size w w1 := BB.trans (D1.mono BB.size)
      have HV1 := Lib.hid V1
      obtain ⟨v0, v1, v2, -, -, v5, -⟩ := V1.cells
      clear V0 BB D1 V1
      go_wp2_with fail
      refine (AL.out _ B1).mono ?_
      rintro e w2 ⟨rfl, D2⟩
      go_wp2_with fail
      go_ret
      exact ⟨rfl, B1.trans (D2.mono B1.size)⟩
  · have hf : v.fewB = false := by simpa using hf
    rw [hf] at FW
    clear hf hv
    unfold ViewT.val at FW ⊢
    go_enter Tryd.func8, Tryd.ntmps8
    go_wp2_with fail
    refine (FW.out _).mono ?_
    rintro e w1 ⟨rfl, D1⟩
    have B1 := (B0.out _).trans (D1.mono (B0.out _).size)
    go_wp2_with fail
    refine (AL.out _ B1).mono ?_
    rintro e w2 ⟨rfl, D2⟩
    go_wp2_with fail
    go_ret
    exact ⟨rfl, B1.trans (D2.mono B1.size)⟩
end Go.Proofs.YtfgjhfmgacopoaaDoor
