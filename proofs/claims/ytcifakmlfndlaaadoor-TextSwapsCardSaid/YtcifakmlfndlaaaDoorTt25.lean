import Derived.Test.YtcifakmlfndlaaaDoorTt24
import Derived.BigQuiet
namespace Go.Proofs.YtcifakmlfndlaaaDoor
set_option linter.unusedVariables false
set_option linter.unusedSimpArgs false
open Go.RowKit Go.Shelf
set_option maxHeartbeats 3200000 in
set_option maxRecDepth 100000 in
/-- ref.Swap. -/
theorem rSwap3_calls (l : Bs) (hl : l.length ≤ 1000000) (s : ByteArray) (hs : s = ⟨l.toArray⟩) (a : Int) (w : World) (hU : U8 w) :
    Calls Tryd.prog 23 #[.agg #[.string s, .int .i64 a]] w fun e w' => e = .returned (swV l a) ∧ Below w.heap.size w w' := by
  obtain ⟨W0, hW0⟩ : ∃ W0, W0 = (w.alloc (.cells #[.string s, .int .i64 a] 27)).alloc (.cells #[.string ⟨#[]⟩, .int .i64 0] 27) := ⟨_, rfl⟩
  have hB0 : Below w.heap.size w W0 := by rw [hW0]; exact ((Below.refl _ w).alloc (Nat.le_refl _) _).alloc (by simp) _
  have hb0 : W0.heap[w.heap.size]? = some (.cells #[.string s, .int .i64 a] 27 (0, 0)) := by rw [hW0]; exact (Below.heap_alloc _ _ _ (by simp)).trans (heap_alloc_new w _)
  have hb1 : W0.heap[w.heap.size + 1]? = some (.cells #[.string ⟨#[]⟩, .int .i64 0] 27 (0, 0)) := by
    rw [hW0]
    have := heap_alloc_new (w.alloc (.cells #[.string s, .int .i64 a] 27)) (.cells #[.string ⟨#[]⟩, .int .i64 0] 27)
    rwa [World.size_alloc] at this
  have hz0 : W0.heap.size = w.heap.size + 1 + 1 := by rw [hW0]; simp
  obtain ⟨c0, c1, _, _⟩ := buf_cells hb0
  obtain ⟨bq, hbq⟩ : ∃ s : ByteArray, s = ⟨(mkS l).toArray⟩ := ⟨_, rfl⟩
  have hml := mkS_len l
  have zq : bq.size = (mkS l).length := by rw [hbq, str_of]
  obtain ⟨k, hk, hkb, hno, hyes⟩ := swV_is l a
  obtain ⟨K, hK⟩ : ∃ K, K = back (mkS l) a := ⟨_, rfl⟩
  have hkl := back_le (mkS l) a
  rw [← hK] at hkl
  have q1 := rMake_calls l (by omega) s hs a W0 (hU.later hB0)
  rw [← hK, show bufV (mkS l) K = .agg #[.string bq, .int .i64 (K : Int)] by rw [hbq]] at q1
  rw [← hK] at hno
  obtain ⟨cs, hcs⟩ : ∃ cs, cs = cuts (mkS l) := ⟨_, rfl⟩
  have hcl := cuts_len (mkS l)
  have q2 := fun (W : World) => rCut_calls (mkS l) (by omega) bq hbq W
  obtain ⟨bt, hbt⟩ : ∃ s : ByteArray, s = bq.extract 0 K := ⟨_, rfl⟩
  have hbt2 : bt = ⟨((mkS l).take K).toArray⟩ := by rw [hbt, hbq, extract_eq]; simp
  have hct : (cuts ((mkS l).take K)).length = k := by
    have h1 := (cuts_mid (mkS l) 0 k).1
    rw [List.drop_zero] at h1
    rw [hK, hkb, cut_take, h1, List.length_take]; omega
  have q3 := fun (W : World) => rCut_calls ((mkS l).take K) (by rw [List.length_take]; omega) bt hbt2 W
  rw [hct] at q3
  rw [← hcs] at q2 hk hno hyes hcl
  have Q1 := Lib.hid q1
  have Q2 := Lib.hid q2
  have Q3 := Lib.hid q3
  have HB := Lib.hid hb0
  have HB1 := Lib.hid hb1
  have HW := Lib.hid hW0
  have HB0 := Lib.hid hB0
  have HU := Lib.hid hU
  have HQ := Lib.hid hbq
  have HNO := Lib.hid hno
  have HYES := Lib.hid hyes
  have HCS := Lib.hid hcs
  have hq6 : bq.size ≤ 600 := by omega
  have hk6 : K ≤ 600 := by omega
  have hn6 : cs.length ≤ 600 := by omega
  have ZQ := Lib.hid zq
  have hkq : (K : Int) ≤ (bq.size : Int) := by omega
  have hk0 : (0 : Int) ≤ (K : Int) := by omega
  clear hs hU hbq hK hkb hno hyes hcs q1 q2 q3 hb0 hb1 hW0 hB0 hml hkl zq hl hbt2 hct hcl
  subst hbt
  go_enter Tryd.func23, Tryd.ntmps23
  go_wp2_with fail
  rw [← HW.out]
  refine Q1.out.mono ?_
  rintro e w1 ⟨rfl, hb1⟩
  have h1 := (hb1.block w.heap.size (by omega)).trans HB.out
  have h1' := (hb1.block (w.heap.size + 1) (by omega)).trans HB1.out
  obtain ⟨d0, d1, f0, f1⟩ := buf_cells h1
  have H1 := Lib.hid h1
  have H1' := Lib.hid h1'
  have B1 := HB0.out.trans (hb1.mono (by omega))
  clear h1 h1' c0 c1
  go_wp2_with fail
  obtain ⟨w2, e2, h2, d0, d1, b2⟩ := buf_set H1.out (.string bq) (.int .i64 (K : Int))
  rw [e2]
  have B2 : Below w.heap.size w w2 := b2 _ _ (Nat.le_refl _) B1
  have h2' : w2.heap[w.heap.size + 1]? = some (.cells #[.string ⟨#[]⟩, .int .i64 0] 27 (0, 0)) := by
    rw [← e2, Below.heap_setCell _ _ _ _ (by dsimp only; omega), Below.heap_setCell _ _ _ _ (by dsimp only; omega)]
    exact H1'.out
  have H2 := Lib.hid h2
  have H2' := Lib.hid h2'
  have hz2 : w.heap.size + 1 < w2.heap.size := lt_of_heap h2'
  clear e2 h2 h2' b2 f0 f1 d0 d1
  refine (Q2.out w2).mono ?_
  rintro e w3 ⟨v3, rfl, hrow3, hb3⟩
  obtain ⟨A, c, rfl, hcn, hcm, _, hA⟩ := hrow3.rd
  have h3 := (hb3.block w.heap.size (by omega)).trans H2.out
  have h3' := (hb3.block (w.heap.size + 1) (by omega)).trans H2'.out
  obtain ⟨d0, d1, _, _⟩ := buf_cells h3
  have B3 := B2.trans (hb3.mono B2.size)
  have H3 := Lib.hid h3
  have H3' := Lib.hid h3'
  have HR3 := Lib.hid hrow3
  have hz3 := hb3.size
  clear h3 h3' hrow3
  go_wp2_with fail
  refine (Q3.out w3).mono ?_
  rintro e w4 ⟨v4, rfl, hrow4, hb4⟩
  obtain ⟨A4, c4, rfl, _⟩ := hrow4.rd
  have h4 := (hb4.block w.heap.size (by omega)).trans H3.out
  have h4' := (hb4.block (w.heap.size + 1) (by omega)).trans H3'.out
  clear d0 d1
  obtain ⟨d0, d1, _, _⟩ := buf_cells h4
  obtain ⟨r0, r1, g0, g1⟩ := buf_cells h4'
  have B4 := B3.trans (hb4.mono B3.size)
  have HR4 := Lib.hid (HR3.out.below hb4 (Nat.le_refl _))
  have H4' := Lib.hid h4'
  have hz4 := hb4.size
  clear h4 h4' hrow4
  by_cases hz : k = 0
  · have i1 : decide ((k : Int) = 0) = true := by simp; omega
    have i2 : decide (k = 0) = true := by simp; omega
    have i3 : ((k : Int) == 0) = true := by simp; omega
    have hsv := HNO.out (.inl hz)
    have HSV := Lib.hid hsv
    clear hsv
    subst hz
    go_wp2
    obtain ⟨W5, e5, _, v0, v1, b5⟩ := buf_set H4'.out (.string bq) (.int .i64 (K : Int))
    rw [e5]
    exact bodyPost_ret (v := .tuple #[.agg #[.string bq, .int .i64 (K : Int)], .bool false]) (by simp [results, Tryd.results23, go_sem, v0, v1]) rfl ⟨by rw [HSV.out, HQ.out], b5 _ _ (by omega) B4⟩
  · have i1 : decide ((k : Int) = 0) = false := by simp; omega
    have i2 : decide (k = 0) = false := by simp; omega
    have i3 : ((k : Int) == 0) = false := by simp; omega
    by_cases h2l : cs.length < 2
    · have i4 : decide ((cs.length : Int) < 2) = true := by simp; omega
      have i5 : decide (cs.length < 2) = true := by simp; omega
      have hsv := HNO.out (.inr h2l)
      have HSV := Lib.hid hsv
      clear hsv
      go_wp2
      obtain ⟨W5, e5, _, v0, v1, b5⟩ := buf_set H4'.out (.string bq) (.int .i64 (K : Int))
      rw [e5]
      exact bodyPost_ret (v := .tuple #[.agg #[.string bq, .int .i64 (K : Int)], .bool false]) (by simp [results, Tryd.results23, go_sem, v0, v1]) rfl ⟨by rw [HSV.out, HQ.out], b5 _ _ (by omega) B4⟩
    · have i4 : decide ((cs.length : Int) < 2) = false := by simp; omega
      have i5 : decide (cs.length < 2) = false := by simp; omega
      obtain ⟨j, hj⟩ : ∃ j, j = (if k = cs.length then k - 1 else k) := ⟨_, rfl⟩
      have hj1 : 1 ≤ j ∧ j < cs.length := by split at hj <;> omega
      have hsv := HYES.out (by omega) (by omega) j hj
      obtain ⟨i, hi⟩ : ∃ i, i = j - 1 := ⟨_, rfl⟩
      have HSV := Lib.hid hsv
      obtain ⟨g, off0, rfl, hgB, hgl, hci, hfi, hset⟩ := HR4.out.set (k := i) (by omega)
      obtain ⟨_, _, e', _, _, hcj, hfj, _⟩ := HR4.out.set (k := j) (by omega)
      cases e'
      obtain ⟨x, hx⟩ : ∃ x, cs[i]? = some x := ⟨_, List.getElem?_eq_getElem (by omega)⟩
      obtain ⟨y, hy⟩ : ∃ y, cs[j]? = some y := ⟨_, List.getElem?_eq_getElem (by omega)⟩
      rw [List.getElem?_map, hx] at hci
      rw [List.getElem?_map, hy] at hcj
      obtain ⟨bx, hbx⟩ : ∃ s : ByteArray, s = ⟨x.toArray⟩ := ⟨_, rfl⟩
      obtain ⟨by_, hby⟩ : ∃ s : ByteArray, s = ⟨y.toArray⟩ := ⟨_, rfl⟩
      simp only [Option.map_some] at hci hcj
      rw [lit_of hbx] at hci
      rw [lit_of hby] at hcj
      have HBX := Lib.hid hbx
      have HBY := Lib.hid hby
      have HX := Lib.hid hx
      have HY := Lib.hid hy
      have HSET := Lib.hid hset
      have HJ := Lib.hid hj
      have hij : (j : Int) - 1 = (i : Int) := by omega
      have hij2 : i + 1 = j := by omega
      have j4 : IntKind.i64.wrap ((j : Int) - 1) = (i : Int) := by rw [hij]; exact IntWalk.i64_in _ (by omega)
      have j5 : IntKind.i64.wrap (i : Int) = (i : Int) := IntWalk.i64_in _ (by omega)
      have k1 : (0 : Int) ≤ (i : Int) := by omega
      have k2 : (i : Int) < (cs.length : Int) := by omega
      have k3 : (j : Int) < (cs.length : Int) := by omega
      have hfo : Tryd.prog.follows Departure.mixedOrders = true := by kernel_rfl
      have hcd1 : w4.drew.cell? ⟨g, off0 + i, none⟩ = some (.string bx) := hci
      have hcd2 : w4.drew.cell? ⟨g, off0 + j, none⟩ = some (.string by_) := hcj
      have hfd1 : w4.drew.frozen? ⟨g, off0 + i, none⟩ = false := hfi
      have hfd2 : w4.drew.frozen? ⟨g, off0 + j, none⟩ = false := hfj
      clear hbx hby hx hy hset hsv hj hi
      by_cases hkl : k = cs.length
      · have n1 : decide ((k : Int) = (cs.length : Int)) = true := by simp; omega
        have n2 : decide (k = cs.length) = true := by simp; omega
        have n3 : ((k : Int) == (cs.length : Int)) = true := by simp; omega
        have n4 : (k : Int) - 1 = (j : Int) := by have := HJ.out; rw [if_pos hkl] at this; omega
        have n5 : IntKind.i64.wrap ((k : Int) - 1) = (j : Int) := by rw [n4]; exact IntWalk.i64_in _ (by omega)
        clear hkl
        go_wp2_with fail
        go_region
        all_goals
          obtain ⟨w5, hw5⟩ : ∃ W, W = ((w4.setCell ⟨g, off0 + i, none⟩ (.string by_)).setCell ⟨g, off0 + j, none⟩ (.string bx)).drew := ⟨_, rfl⟩
          rw [← hw5]
          have hr5 : Row w5 w2.heap.size 9 1 (.slice (some ⟨g, off0, none⟩) cs.length c) cs.length ((swL cs j).map str) := by
            have hA := HSET.out (.string by_)
            obtain ⟨g', o', e', _, _, _, _, hB⟩ := hA.set (k := j) (by omega)
            cases e'
            have hC := (hB (.string bx)).at_ (w' := w5) (fun _ _ => by rw [hw5]; rfl)
            have e1 : (swL cs j).map str = (((cs.map str).set i (.string by_)).set j (.string bx)) := by
              have gx : cs.getD (j - 1) [] = x := by rw [List.getD_eq_getElem?_getD, show j - 1 = i by omega, HX.out]; rfl
              have gy : cs.getD j [] = y := by rw [List.getD_eq_getElem?_getD, HY.out]; rfl
              unfold swL
              rw [gx, gy, List.map_set, List.map_set, show j - 1 = i by omega, HBX.out, HBY.out]
            rw [e1]; exact hC
          have B5 : Below w.heap.size w w5 := by
            rw [hw5]
            exact ((B4.setCell (p := ⟨g, off0 + i, none⟩) (by show w.heap.size ≤ g; have := B2.size; omega) _).setCell (p := ⟨g, off0 + j, none⟩) (by show w.heap.size ≤ g; have := B2.size; omega) _).drew
          have h5' : w5.heap[w.heap.size + 1]? = some (.cells #[.string ⟨#[]⟩, .int .i64 0] 27 (0, 0)) := by
            rw [hw5]
            exact (Below.heap_setCell _ _ _ _ (by show w.heap.size + 1 ≠ g; omega)).trans ((Below.heap_setCell _ _ _ _ (by show w.heap.size + 1 ≠ g; omega)).trans H4'.out)
          have H5' := Lib.hid h5'
          have HR5 := Lib.hid hr5
          obtain ⟨ds, hds⟩ : ∃ ds, ds = swL cs j := ⟨_, rfl⟩
          have hdl : ds.length = cs.length := by rw [hds]; unfold swL; simp
          have hsf := swL_flat (mkS l) (j := j) hj1.1 (by rw [← HCS.out]; exact hj1.2)
          rw [← HCS.out, ← hds] at hsf
          have hfl : ds.flatten.length ≤ 600 := by
            rw [hsf.1, swS_len (off_mono cs (by omega)) (off_mono cs (by omega)) (by rw [HCS.out]; exact off_le _ _)]
            exact mkS_len l
          have HSF := Lib.hid hsf
          have HDS := Lib.hid hds
          rw [← hds] at HR5 HSV
          rw [← HSF.out.2.1] at HSV
          clear hw5 hcd1 hcd2 hfd1 hfd2 hci hcj hfi hfj d0 d1 r0 r1 g0 g1 hr5 h5' hsf hds B4
          go_wp2
          go_loopw [6, 7, 8] (fun u6 u7 u8 wr => ∃ n : Nat, u8 = n64 n ∧ n ≤ ds.length ∧ u6 = str ((ds.take n).flatten) ∧ u7 = n64 (if j < n then off ds (j + 1) else 0) ∧ wr = w5) (fun _ _ u8 _ => (ds.length - intOf u8).toNat)
          case atStart => exact ⟨0, rfl, Nat.zero_le _, rfl, rfl, rfl⟩
          case round =>
            obtain ⟨n, rfl, hn, rfl, rfl, rfl⟩ := hrel
            obtain ⟨cur, hcur⟩ : ∃ s : ByteArray, s = ⟨((ds.take n).flatten).toArray⟩ := ⟨_, rfl⟩
            rw [show str ((ds.take n).flatten) = .string cur by rw [hcur]]
            obtain ⟨en, hen⟩ : ∃ m : Nat, m = if j < n then off ds (j + 1) else 0 := ⟨_, rfl⟩
            rw [← hen]
            have HCUR := Lib.hid hcur
            have HEN := Lib.hid hen
            clear hcur hen
            by_cases hlt : n < ds.length
            · obtain ⟨z, hz⟩ : ∃ z, ds[n]? = some z := ⟨_, List.getElem?_eq_getElem hlt⟩
              obtain ⟨bz, hbz⟩ : ∃ s : ByteArray, s = ⟨z.toArray⟩ := ⟨_, rfl⟩
              obtain ⟨_, _, e', hcz⟩ : ∃ b o, (some ⟨g, off0, none⟩ : Option Addr) = some ⟨b, o, none⟩ ∧ wr.cell? ⟨b, o + n, none⟩ = some (str z) := by
                obtain ⟨A', c', e1, _, _, hrd, _⟩ := HR5.out.rd
                cases e1
                exact hrd n (str z) (by rw [List.getElem?_map, hz]; rfl)
              cases e'
              rw [lit_of hbz] at hcz
              have htk : (ds.take (n + 1)).flatten = (ds.take n).flatten ++ z := by
                rw [List.take_add_one, hz, List.flatten_append, Option.toList_some, List.flatten_cons, List.flatten_nil, List.append_nil]
              have hle : (ds.take (n + 1)).flatten.length ≤ 600 := by
                have h1 := off_mono ds (show n + 1 ≤ max (n + 1) ds.length by omega)
                rw [off_all ds (max (n + 1) ds.length) (by omega)] at h1
                exact Nat.le_trans h1 hfl
              have hadd := fun W => add_any HCUR.out hbz (by rw [← List.length_append, ← htk]; omega) W
              rw [← htk] at hadd
              obtain ⟨nx, hnx⟩ : ∃ s : ByteArray, s = ⟨((ds.take (n + 1)).flatten).toArray⟩ := ⟨_, rfl⟩
              rw [← hnx] at hadd
              have hnz : nx.size = off ds (n + 1) := by rw [hnx, str_of]; rfl
              have HNZ := Lib.hid hnz
              have HNX := Lib.hid hnx
              have hns : nx.size ≤ 600 := by rw [hnz]; exact hle
              have hnl : (n : Int) < (cs.length : Int) := by omega
              have hn0 : (0 : Int) ≤ (n : Int) := by omega
              clear hz hbz htk hle hnx hnz
              by_cases hnj : n = j
              · have m1 : decide ((n : Int) = (j : Int)) = true := by simp; omega
                have m2 : decide (n = j) = true := by simp; omega
                have m3 : ((n : Int) == (j : Int)) = true := by simp; omega
                have HNJ := Lib.hid hnj
                clear hnj
                go_wp2
                go_roundw
                case rel =>
                  refine ⟨n + 1, by go_num, by omega, by rw [HNX.out], ?_, trivial⟩
                  rw [if_pos (by have := HNJ.out; omega), ← HNJ.out, HNZ.out]
                case measure => simp [intOf]; omega
              · have m1 : decide ((n : Int) = (j : Int)) = false := by simp; omega
                have m2 : decide (n = j) = false := by simp; omega
                have m3 : ((n : Int) == (j : Int)) = false := by simp; omega
                go_wp2
                go_roundw
                case rel =>
                  refine ⟨n + 1, by go_num, by omega, by rw [HNX.out], ?_, trivial⟩
                  rw [HEN.out]
                  by_cases h : j < n
                  · rw [if_pos h, if_pos (by omega)]
                  · rw [if_neg h, if_neg (by omega)]
                case measure => simp [intOf]; omega
            · obtain rfl : n = ds.length := by omega
              have hcur2 : cur = ⟨ds.flatten.toArray⟩ := by rw [HCUR.out, List.take_length]
              have hen2 : en = off ds (j + 1) := by rw [HEN.out, if_pos (by omega)]
              have q5 := fun (W : World) => rOn_calls ds.flatten (by omega) cur hcur2 (en : Int) W
              obtain ⟨O, hO⟩ : ∃ n, n = on ds.flatten (en : Int) := ⟨_, rfl⟩
              rw [← hO] at q5
              have hsv : swV l a = .tuple #[.agg #[.string cur, .int .i64 (O : Int)], .bool true] := by rw [HSV.out, ← hen2, ← hO, hcur2]
              have HSV2 := Lib.hid hsv
              have Q5 := Lib.hid q5
              have hlt2 : decide ((ds.length : Int) < (cs.length : Int)) = false := by simp; omega
              have hlt3 : decide (ds.length < cs.length) = false := by simp; omega
              clear hcur2 hen2 hO q5 hsv
              go_wp2_with fail
              refine (Q5.out wr).mono ?_
              rintro e w6 ⟨rfl, hb6⟩
              have h6 := (hb6.block (w.heap.size + 1) (lt_of_heap H5'.out)).trans H5'.out
              have B6 := B5.trans (hb6.mono B5.size)
              have H6 := Lib.hid h6
              obtain ⟨r0, r1, g0, g1⟩ := buf_cells h6
              clear h6
              go_wp2
              obtain ⟨W7, e7, _, v0, v1, b7⟩ := buf_set H6.out (.string cur) (.int .i64 (O : Int))
              rw [e7]
              exact bodyPost_ret (v := .tuple #[.agg #[.string cur, .int .i64 (O : Int)], .bool true]) (by simp [results, Tryd.results23, go_sem, v0, v1]) rfl ⟨by rw [HSV2.out], b7 _ _ (by omega) B6⟩
      · have n1 : decide ((k : Int) = (cs.length : Int)) = false := by simp; omega
        have n2 : decide (k = cs.length) = false := by simp; omega
        have n3 : ((k : Int) == (cs.length : Int)) = false := by simp; omega
        have n4 : k = j := by have := HJ.out; rw [if_neg hkl] at this; omega
        clear hkl
        have HN4 := Lib.hid n4
        clear n4
        subst k
        go_wp2_with fail
        go_region
        all_goals
          obtain ⟨w5, hw5⟩ : ∃ W, W = ((w4.setCell ⟨g, off0 + i, none⟩ (.string by_)).setCell ⟨g, off0 + j, none⟩ (.string bx)).drew := ⟨_, rfl⟩
          rw [← hw5]
          have hr5 : Row w5 w2.heap.size 9 1 (.slice (some ⟨g, off0, none⟩) cs.length c) cs.length ((swL cs j).map str) := by
            have hA := HSET.out (.string by_)
            obtain ⟨g', o', e', _, _, _, _, hB⟩ := hA.set (k := j) (by omega)
            cases e'
            have hC := (hB (.string bx)).at_ (w' := w5) (fun _ _ => by rw [hw5]; rfl)
            have e1 : (swL cs j).map str = (((cs.map str).set i (.string by_)).set j (.string bx)) := by
              have gx : cs.getD (j - 1) [] = x := by rw [List.getD_eq_getElem?_getD, show j - 1 = i by omega, HX.out]; rfl
              have gy : cs.getD j [] = y := by rw [List.getD_eq_getElem?_getD, HY.out]; rfl
              unfold swL
              rw [gx, gy, List.map_set, List.map_set, show j - 1 = i by omega, HBX.out, HBY.out]
            rw [e1]; exact hC
          have B5 : Below w.heap.size w w5 := by
            rw [hw5]
            exact ((B4.setCell (p := ⟨g, off0 + i, none⟩) (by show w.heap.size ≤ g; have := B2.size; omega) _).setCell (p := ⟨g, off0 + j, none⟩) (by show w.heap.size ≤ g; have := B2.size; omega) _).drew
          have h5' : w5.heap[w.heap.size + 1]? = some (.cells #[.string ⟨#[]⟩, .int .i64 0] 27 (0, 0)) := by
            rw [hw5]
            exact (Below.heap_setCell _ _ _ _ (by show w.heap.size + 1 ≠ g; omega)).trans ((Below.heap_setCell _ _ _ _ (by show w.heap.size + 1 ≠ g; omega)).trans H4'.out)
          have H5' := Lib.hid h5'
          have HR5 := Lib.hid hr5
          obtain ⟨ds, hds⟩ : ∃ ds, ds = swL cs j := ⟨_, rfl⟩
          have hdl : ds.length = cs.length := by rw [hds]; unfold swL; simp
          have hsf := swL_flat (mkS l) (j := j) hj1.1 (by rw [← HCS.out]; exact hj1.2)
          rw [← HCS.out, ← hds] at hsf
          have hfl : ds.flatten.length ≤ 600 := by
            rw [hsf.1, swS_len (off_mono cs (by omega)) (off_mono cs (by omega)) (by rw [HCS.out]; exact off_le _ _)]
            exact mkS_len l
          have HSF := Lib.hid hsf
          have HDS := Lib.hid hds
          rw [← hds] at HR5 HSV
          rw [← HSF.out.2.1] at HSV
          clear hw5 hcd1 hcd2 hfd1 hfd2 hci hcj hfi hfj d0 d1 r0 r1 g0 g1 hr5 h5' hsf hds B4
          go_wp2
          go_loopw [6, 7, 8] (fun u6 u7 u8 wr => ∃ n : Nat, u8 = n64 n ∧ n ≤ ds.length ∧ u6 = str ((ds.take n).flatten) ∧ u7 = n64 (if j < n then off ds (j + 1) else 0) ∧ wr = w5) (fun _ _ u8 _ => (ds.length - intOf u8).toNat)
          case atStart => exact ⟨0, rfl, Nat.zero_le _, rfl, rfl, rfl⟩
          case round =>
            obtain ⟨n, rfl, hn, rfl, rfl, rfl⟩ := hrel
            obtain ⟨cur, hcur⟩ : ∃ s : ByteArray, s = ⟨((ds.take n).flatten).toArray⟩ := ⟨_, rfl⟩
            rw [show str ((ds.take n).flatten) = .string cur by rw [hcur]]
            obtain ⟨en, hen⟩ : ∃ m : Nat, m = if j < n then off ds (j + 1) else 0 := ⟨_, rfl⟩
            rw [← hen]
            have HCUR := Lib.hid hcur
            have HEN := Lib.hid hen
            clear hcur hen
            by_cases hlt : n < ds.length
            · obtain ⟨z, hz⟩ : ∃ z, ds[n]? = some z := ⟨_, List.getElem?_eq_getElem hlt⟩
              obtain ⟨bz, hbz⟩ : ∃ s : ByteArray, s = ⟨z.toArray⟩ := ⟨_, rfl⟩
              obtain ⟨_, _, e', hcz⟩ : ∃ b o, (some ⟨g, off0, none⟩ : Option Addr) = some ⟨b, o, none⟩ ∧ wr.cell? ⟨b, o + n, none⟩ = some (str z) := by
                obtain ⟨A', c', e1, _, _, hrd, _⟩ := HR5.out.rd
                cases e1
                exact hrd n (str z) (by rw [List.getElem?_map, hz]; rfl)
              cases e'
              rw [lit_of hbz] at hcz
              have htk : (ds.take (n + 1)).flatten = (ds.take n).flatten ++ z := by
                rw [List.take_add_one, hz, List.flatten_append, Option.toList_some, List.flatten_cons, List.flatten_nil, List.append_nil]
              have hle : (ds.take (n + 1)).flatten.length ≤ 600 := by
                have h1 := off_mono ds (show n + 1 ≤ max (n + 1) ds.length by omega)
                rw [off_all ds (max (n + 1) ds.length) (by omega)] at h1
                exact Nat.le_trans h1 hfl
              have hadd := fun W => add_any HCUR.out hbz (by rw [← List.length_append, ← htk]; omega) W
              rw [← htk] at hadd
              obtain ⟨nx, hnx⟩ : ∃ s : ByteArray, s = ⟨((ds.take (n + 1)).flatten).toArray⟩ := ⟨_, rfl⟩
              rw [← hnx] at hadd
              have hnz : nx.size = off ds (n + 1) := by rw [hnx, str_of]; rfl
              have HNZ := Lib.hid hnz
              have HNX := Lib.hid hnx
              have hns : nx.size ≤ 600 := by rw [hnz]; exact hle
              have hnl : (n : Int) < (cs.length : Int) := by omega
              have hn0 : (0 : Int) ≤ (n : Int) := by omega
              clear hz hbz htk hle hnx hnz
              by_cases hnj : n = j
              · have m1 : decide ((n : Int) = (j : Int)) = true := by simp; omega
                have m2 : decide (n = j) = true := by simp; omega
                have m3 : ((n : Int) == (j : Int)) = true := by simp; omega
                have HNJ := Lib.hid hnj
                clear hnj
                go_wp2
                go_roundw
                case rel =>
                  refine ⟨n + 1, by go_num, by omega, by rw [HNX.out], ?_, trivial⟩
                  rw [if_pos (by have := HNJ.out; omega), ← HNJ.out, HNZ.out]
                case measure => simp [intOf]; omega
              · have m1 : decide ((n : Int) = (j : Int)) = false := by simp; omega
                have m2 : decide (n = j) = false := by simp; omega
                have m3 : ((n : Int) == (j : Int)) = false := by simp; omega
                go_wp2
                go_roundw
                case rel =>
                  refine ⟨n + 1, by go_num, by omega, by rw [HNX.out], ?_, trivial⟩
                  rw [HEN.out]
                  by_cases h : j < n
                  · rw [if_pos h, if_pos (by omega)]
                  · rw [if_neg h, if_neg (by omega)]
                case measure => simp [intOf]; omega
            · obtain rfl : n = ds.length := by omega
              have hcur2 : cur = ⟨ds.flatten.toArray⟩ := by rw [HCUR.out, List.take_length]
              have hen2 : en = off ds (j + 1) := by rw [HEN.out, if_pos (by omega)]
              have q5 := fun (W : World) => rOn_calls ds.flatten (by omega) cur hcur2 (en : Int) W
              obtain ⟨O, hO⟩ : ∃ n, n = on ds.flatten (en : Int) := ⟨_, rfl⟩
              rw [← hO] at q5
              have hsv : swV l a = .tuple #[.agg #[.string cur, .int .i64 (O : Int)], .bool true] := by rw [HSV.out, ← hen2, ← hO, hcur2]
              have HSV2 := Lib.hid hsv
              have Q5 := Lib.hid q5
              have hlt2 : decide ((ds.length : Int) < (cs.length : Int)) = false := by simp; omega
              have hlt3 : decide (ds.length < cs.length) = false := by simp; omega
              clear hcur2 hen2 hO q5 hsv
              go_wp2_with fail
              refine (Q5.out wr).mono ?_
              rintro e w6 ⟨rfl, hb6⟩
              have h6 := (hb6.block (w.heap.size + 1) (lt_of_heap H5'.out)).trans H5'.out
              have B6 := B5.trans (hb6.mono B5.size)
              have H6 := Lib.hid h6
              obtain ⟨r0, r1, g0, g1⟩ := buf_cells h6
              clear h6
              go_wp2
              obtain ⟨W7, e7, _, v0, v1, b7⟩ := buf_set H6.out (.string cur) (.int .i64 (O : Int))
              rw [e7]
              exact bodyPost_ret (v := .tuple #[.agg #[.string cur, .int .i64 (O : Int)], .bool true]) (by simp [results, Tryd.results23, go_sem, v0, v1]) rfl ⟨by rw [HSV2.out], b7 _ _ (by omega) B6⟩
end Go.Proofs.YtcifakmlfndlaaaDoor
