import Derived.Test.YtcifakmlfndlaaaDoorTt17
import Derived.BigQuiet
namespace Go.Proofs.YtcifakmlfndlaaaDoor
set_option linter.unusedVariables false
set_option linter.unusedSimpArgs false
open Go.RowKit Go.Shelf
set_option maxHeartbeats 3200000 in
set_option maxRecDepth 100000 in
/-- ref.Cut. -/
theorem rCut3_calls (l : Bs) (hl : l.length ≤ 1000000) (s : ByteArray) (hs : s = ⟨l.toArray⟩) (a f t : Int) (w : World) (hU : U8 w) :
    Calls Tryd.prog 21 #[.agg #[.string s, .int .i64 a], .int .i64 f, .int .i64 t] w fun e w' => e = .returned (cutV l a f t) ∧ Below w.heap.size w w' := by
  obtain ⟨W0, hW0⟩ : ∃ W0, W0 = (w.alloc (.cells #[.string s, .int .i64 a] 27)).alloc (.cells #[.string ⟨#[]⟩, .int .i64 0] 27) := ⟨_, rfl⟩
  have hB0 : Below w.heap.size w W0 := by rw [hW0]; exact ((Below.refl _ w).alloc (Nat.le_refl _) _).alloc (by simp) _
  have hb0 : W0.heap[w.heap.size]? = some (.cells #[.string s, .int .i64 a] 27 (0, 0)) := by rw [hW0]; exact (Below.heap_alloc _ _ _ (by simp)).trans (heap_alloc_new w _)
  have hb1 : W0.heap[w.heap.size + 1]? = some (.cells #[.string ⟨#[]⟩, .int .i64 0] 27 (0, 0)) := by
    rw [hW0]
    have := heap_alloc_new (w.alloc (.cells #[.string s, .int .i64 a] 27)) (.cells #[.string ⟨#[]⟩, .int .i64 0] 27)
    rwa [World.size_alloc] at this
  have hz0 : W0.heap.size = w.heap.size + 1 + 1 := by rw [hW0]; simp
  obtain ⟨c0, c1, _, _⟩ := buf_cells hb0
  obtain ⟨bq, hbq⟩ : ∃ s : ByteArray, s = ⟨(mkS l).toArray⟩ := ⟨_, rfl⟩
  obtain ⟨k, hk⟩ : ∃ k, k = back (mkS l) a := ⟨_, rfl⟩
  obtain ⟨F, hF⟩ : ∃ k, k = back (mkS l) f := ⟨_, rfl⟩
  obtain ⟨T, hT⟩ : ∃ k, k = back (mkS l) t := ⟨_, rfl⟩
  have hml := mkS_len l
  have hkl := back_le (mkS l) a
  have hfl := back_le (mkS l) f
  have htl := back_le (mkS l) t
  rw [← hk] at hkl
  rw [← hF] at hfl
  rw [← hT] at htl
  have zq : bq.size = (mkS l).length := by rw [hbq, str_of]
  have q1 := rMake_calls l (by omega) s hs a W0 (hU.later hB0)
  rw [← hk, show bufV (mkS l) k = .agg #[.string bq, .int .i64 (k : Int)] by rw [hbq]] at q1
  have q2 := fun (W : World) => rBack_calls (mkS l) (by omega) bq hbq f W
  have q3 := fun (W : World) => rBack_calls (mkS l) (by omega) bq hbq t W
  rw [← hF] at q2
  rw [← hT] at q3
  have Q1 := Lib.hid q1
  have Q2 := Lib.hid q2
  have Q3 := Lib.hid q3
  have HB := Lib.hid hb0
  have HB1 := Lib.hid hb1
  have HW := Lib.hid hW0
  have HB0 := Lib.hid hB0
  have HU := Lib.hid hU
  have HQ := Lib.hid hbq
  have HK := Lib.hid hk
  have HFF := Lib.hid hF
  have HTT := Lib.hid hT
  have hq6 : bq.size ≤ 600 := by omega
  have hk6 : k ≤ 600 := by omega
  have hf6 : F ≤ 600 := by omega
  have ht6 : T ≤ 600 := by omega
  have ZQ := Lib.hid zq
  have hfq : (F : Int) ≤ (bq.size : Int) := by omega
  have htq : (T : Int) ≤ (bq.size : Int) := by omega
  have hf0 : (0 : Int) ≤ (F : Int) := by omega
  have ht0 : (0 : Int) ≤ (T : Int) := by omega
  clear hs hU hbq hk hF hT q1 q2 q3 hb0 hb1 hW0 hB0 hml hkl hfl htl zq hl
  go_enter Tryd.func21, Tryd.ntmps21
  go_wp2_with fail
  rw [← HW.out]
  refine Q1.out.mono ?_
  rintro e w1 ⟨rfl, hb1⟩
  have h1 := (hb1.block w.heap.size (by omega)).trans HB.out
  have h1' := (hb1.block (w.heap.size + 1) (by omega)).trans HB1.out
  obtain ⟨d0, d1, f0, f1⟩ := buf_cells h1
  have H1 := Lib.hid h1
  have H1' := Lib.hid h1'
  have B1 := HB0.out.trans (hb1.mono (by omega))
  clear h1 h1' c0 c1
  go_wp2_with fail
  obtain ⟨w2, e2, h2, d0, d1, b2⟩ := buf_set H1.out (.string bq) (.int .i64 (k : Int))
  rw [e2]
  have B2 : Below w.heap.size w w2 := b2 _ _ (Nat.le_refl _) B1
  have h2' : w2.heap[w.heap.size + 1]? = some (.cells #[.string ⟨#[]⟩, .int .i64 0] 27 (0, 0)) := by
    rw [← e2, Below.heap_setCell _ _ _ _ (by dsimp only; omega), Below.heap_setCell _ _ _ _ (by dsimp only; omega)]
    exact H1'.out
  have H2 := Lib.hid h2
  have H2' := Lib.hid h2'
  have hz2 : w.heap.size + 1 < w2.heap.size := lt_of_heap h2'
  clear e2 h2 h2' b2 f0 f1 d0 d1
  refine (Q2.out w2).mono ?_
  rintro e w3 ⟨rfl, hb3⟩
  have h3 := (hb3.block w.heap.size (by omega)).trans H2.out
  have h3' := (hb3.block (w.heap.size + 1) (by omega)).trans H2'.out
  obtain ⟨d0, d1, _, _⟩ := buf_cells h3
  have B3 := B2.trans (hb3.mono B2.size)
  have H3 := Lib.hid h3
  have H3' := Lib.hid h3'
  have hz3 := hb3.size
  clear h3 h3'
  go_wp2_with fail
  refine (Q3.out w3).mono ?_
  rintro e w4 ⟨rfl, hb4⟩
  have h4 := (hb4.block w.heap.size (by omega)).trans H3.out
  have h4' := (hb4.block (w.heap.size + 1) (by omega)).trans H3'.out
  clear d0 d1
  obtain ⟨d0, d1, _, _⟩ := buf_cells h4
  obtain ⟨r0, r1, g0, g1⟩ := buf_cells h4'
  have B4 := B3.trans (hb4.mono B3.size)
  have H4 := Lib.hid h4
  have H4' := Lib.hid h4'
  have hz4 := hb4.size
  clear h4 h4'
  by_cases hft : F < T
  · have hd : decide ((T : Int) ≤ (F : Int)) = false := by simp; omega
    have hd2 : decide (T ≤ F) = false := by simp; omega
    obtain ⟨x2, hx2⟩ : ∃ x : ByteArray, x = bq.extract F T := ⟨_, rfl⟩
    have y2 : x2 = ⟨(cutG (mkS l) F T).toArray⟩ := by rw [hx2, HQ.out, extract_eq]; rfl
    obtain ⟨at', hat⟩ : ∃ z : Int, z = cutAt k F T := ⟨_, rfl⟩
    obtain ⟨u1, hu1⟩ : ∃ x : ByteArray, x = bq.extract 0 F := ⟨_, rfl⟩
    obtain ⟨u2, hu2⟩ : ∃ x : ByteArray, x = bq.extract T bq.size := ⟨_, rfl⟩
    have y3 : u1 = ⟨((mkS l).take F).toArray⟩ := by rw [hu1, HQ.out, extract_eq]; simp
    have y4 : u2 = ⟨((mkS l).drop T).toArray⟩ := by rw [hu2, ZQ.out, HQ.out, extract_eq, List.take_length]
    obtain ⟨u3, hu3⟩ : ∃ x : ByteArray, x = ⟨(cutS (mkS l) F T).toArray⟩ := ⟨_, rfl⟩
    have l1 : (mkS l).length ≤ 600 := mkS_len l
    have a1 := fun W => add_any y3 y4 (by rw [List.length_take, List.length_drop]; omega) W
    rw [show (mkS l).take F ++ (mkS l).drop T = cutS (mkS l) F T from rfl, ← hu3] at a1
    have hl2 := cutS_len (S := mkS l) (show F ≤ T by omega)
    have q5 := fun (W : World) => rBack_calls (cutS (mkS l) F T) (by omega) u3 hu3 at' W
    obtain ⟨A', hA'⟩ : ∃ n, n = back (cutS (mkS l) F T) at' := ⟨_, rfl⟩
    rw [← hA'] at q5
    have hcv : cutV l a f t = .tuple #[.agg #[.string u3, .int .i64 (A' : Int)], .string x2] := by
      unfold cutV
      rw [← HFF.out, ← HTT.out, if_pos hft, ← HK.out, ← hat, ← hA', hu3, y2]
    have Q5 := Lib.hid q5
    have HCV := Lib.hid hcv
    have HAT := Lib.hid hat
    clear y2 y3 y4 hu3 l1 hl2 q5 hcv hA' hat
    subst hu1 hu2 hx2
    rcases (by omega : T < k ∨ (F < k ∧ k ≤ T) ∨ k ≤ F) with hc | hc | hc
    · have i1 : decide ((T : Int) < (k : Int)) = true := by simp; omega
      have i2 : decide (T < k) = true := by simp; omega
      have hak : at' = (k : Int) - ((T : Int) - (F : Int)) := by rw [HAT.out]; unfold cutAt; rw [if_pos (by omega)]; omega
      rw [hak] at Q5
      clear hak hc
      go_wp2_with fail
      go_quiet (fail)
      rename_i nq
      obtain ⟨w5, hw5⟩ : ∃ W, W = w4.drewN nq := ⟨_, rfl⟩
      rw [← hw5]
      have B5 : Below w.heap.size w w5 := by rw [hw5]; exact ⟨B4.os, B4.tape, B4.output, B4.size, B4.block⟩
      have h5 : w5.heap[w.heap.size]? = some (.cells #[.string bq, .int .i64 (k : Int)] 27 (0, 0)) := by rw [hw5]; exact H4.out
      have h5' : w5.heap[w.heap.size + 1]? = some (.cells #[.string ⟨#[]⟩, .int .i64 0] 27 (0, 0)) := by rw [hw5]; exact H4'.out
      clear d0 d1 r0 r1 g0 g1 hw5
      obtain ⟨d0, d1, _, _⟩ := buf_cells h5
      obtain ⟨r0, r1, g0, g1⟩ := buf_cells h5'
      have H5 := Lib.hid h5
      have H5' := Lib.hid h5'
      have hz5 := lt_of_heap h5'
      clear h5 h5'
      go_wp2_with fail
      first
        | (go_region_with (go_at_call 31; refine (Q5.out w5.drew).mono ?_; rintro e w6 ⟨rfl, hb6⟩; have h6 := (hb6.block (w.heap.size) (lt_of_heap H5.out)).trans H5.out; have h6' := (hb6.block (w.heap.size + 1) (lt_of_heap H5'.out)).trans H5'.out; obtain ⟨s0, s1, _, _⟩ := buf_cells h6; obtain ⟨r0, r1, g0, g1⟩ := buf_cells h6'; have H6 := Lib.hid h6'; have B6 := (B5.drew).trans (hb6.mono B5.size); clear h6 h6'))
        | fail
      all_goals
        go_wp2
        obtain ⟨W7, e7, _, v0, v1, b7⟩ := buf_set H6.out (.string u3) (.int .i64 (A' : Int))
        rw [e7]
        exact bodyPost_ret (v := .tuple #[.agg #[.string u3, .int .i64 (A' : Int)], .string (bq.extract F T)]) (by simp [results, Tryd.results21, go_sem, v0, v1]) rfl ⟨by rw [HCV.out], b7 _ _ (by omega) B6⟩
    · have i1 : decide ((T : Int) < (k : Int)) = false := by simp; omega
      have i2 : decide (T < k) = false := by simp; omega
      have i3 : decide ((F : Int) < (k : Int)) = true := by simp; omega
      have i4 : decide (F < k) = true := by simp; omega
      have hak : at' = (F : Int) := by rw [HAT.out]; unfold cutAt; rw [if_pos (by omega)]; omega
      rw [hak] at Q5
      clear hak hc
      go_wp2_with fail
      go_quiet (fail)
      rename_i nq
      obtain ⟨w5, hw5⟩ : ∃ W, W = w4.drewN nq := ⟨_, rfl⟩
      rw [← hw5]
      have B5 : Below w.heap.size w w5 := by rw [hw5]; exact ⟨B4.os, B4.tape, B4.output, B4.size, B4.block⟩
      have h5 : w5.heap[w.heap.size]? = some (.cells #[.string bq, .int .i64 (k : Int)] 27 (0, 0)) := by rw [hw5]; exact H4.out
      have h5' : w5.heap[w.heap.size + 1]? = some (.cells #[.string ⟨#[]⟩, .int .i64 0] 27 (0, 0)) := by rw [hw5]; exact H4'.out
      clear d0 d1 r0 r1 g0 g1 hw5
      obtain ⟨d0, d1, _, _⟩ := buf_cells h5
      obtain ⟨r0, r1, g0, g1⟩ := buf_cells h5'
      have H5 := Lib.hid h5
      have H5' := Lib.hid h5'
      have hz5 := lt_of_heap h5'
      clear h5 h5'
      go_wp2_with fail
      first
        | (go_region_with (go_at_call 31; refine (Q5.out w5.drew).mono ?_; rintro e w6 ⟨rfl, hb6⟩; have h6 := (hb6.block (w.heap.size) (lt_of_heap H5.out)).trans H5.out; have h6' := (hb6.block (w.heap.size + 1) (lt_of_heap H5'.out)).trans H5'.out; obtain ⟨s0, s1, _, _⟩ := buf_cells h6; obtain ⟨r0, r1, g0, g1⟩ := buf_cells h6'; have H6 := Lib.hid h6'; have B6 := (B5.drew).trans (hb6.mono B5.size); clear h6 h6'))
        | fail
      all_goals
        go_wp2
        obtain ⟨W7, e7, _, v0, v1, b7⟩ := buf_set H6.out (.string u3) (.int .i64 (A' : Int))
        rw [e7]
        exact bodyPost_ret (v := .tuple #[.agg #[.string u3, .int .i64 (A' : Int)], .string (bq.extract F T)]) (by simp [results, Tryd.results21, go_sem, v0, v1]) rfl ⟨by rw [HCV.out], b7 _ _ (by omega) B6⟩
    · have i1 : decide ((T : Int) < (k : Int)) = false := by simp; omega
      have i2 : decide (T < k) = false := by simp; omega
      have i3 : decide ((F : Int) < (k : Int)) = false := by simp; omega
      have i4 : decide (F < k) = false := by simp; omega
      have hak : at' = (k : Int) := by rw [HAT.out]; unfold cutAt; rw [if_neg (by omega)]
      rw [hak] at Q5
      clear hak hc
      go_wp2_with fail
      go_quiet (fail)
      rename_i nq
      obtain ⟨w5, hw5⟩ : ∃ W, W = w4.drewN nq := ⟨_, rfl⟩
      rw [← hw5]
      have B5 : Below w.heap.size w w5 := by rw [hw5]; exact ⟨B4.os, B4.tape, B4.output, B4.size, B4.block⟩
      have h5 : w5.heap[w.heap.size]? = some (.cells #[.string bq, .int .i64 (k : Int)] 27 (0, 0)) := by rw [hw5]; exact H4.out
      have h5' : w5.heap[w.heap.size + 1]? = some (.cells #[.string ⟨#[]⟩, .int .i64 0] 27 (0, 0)) := by rw [hw5]; exact H4'.out
      clear d0 d1 r0 r1 g0 g1 hw5
      obtain ⟨d0, d1, _, _⟩ := buf_cells h5
      obtain ⟨r0, r1, g0, g1⟩ := buf_cells h5'
      have H5 := Lib.hid h5
      have H5' := Lib.hid h5'
      have hz5 := lt_of_heap h5'
      clear h5 h5'
      go_wp2_with fail
      first
        | (go_region_with (go_at_call 31; refine (Q5.out w5.drew).mono ?_; rintro e w6 ⟨rfl, hb6⟩; have h6 := (hb6.block (w.heap.size) (lt_of_heap H5.out)).trans H5.out; have h6' := (hb6.block (w.heap.size + 1) (lt_of_heap H5'.out)).trans H5'.out; obtain ⟨s0, s1, _, _⟩ := buf_cells h6; obtain ⟨r0, r1, g0, g1⟩ := buf_cells h6'; have H6 := Lib.hid h6'; have B6 := (B5.drew).trans (hb6.mono B5.size); clear h6 h6'))
        | fail
      all_goals
        go_wp2
        obtain ⟨W7, e7, _, v0, v1, b7⟩ := buf_set H6.out (.string u3) (.int .i64 (A' : Int))
        rw [e7]
        exact bodyPost_ret (v := .tuple #[.agg #[.string u3, .int .i64 (A' : Int)], .string (bq.extract F T)]) (by simp [results, Tryd.results21, go_sem, v0, v1]) rfl ⟨by rw [HCV.out], b7 _ _ (by omega) B6⟩
  · have hd : decide ((T : Int) ≤ (F : Int)) = true := by simp; omega
    have hd2 : decide (T ≤ F) = true := by simp; omega
    have hcv : cutV l a f t = .tuple #[.agg #[.string bq, .int .i64 (k : Int)], .string ⟨#[]⟩] := by
      rw [cutV_no (by rw [← HFF.out, ← HTT.out]; exact hft), ← HK.out, HQ.out]
    have HCV := Lib.hid hcv
    clear hcv
    go_wp2
    obtain ⟨W5, e5, _, v0, v1, b5⟩ := buf_set H4'.out (.string bq) (.int .i64 (k : Int))
    rw [e5]
    exact bodyPost_ret (v := .tuple #[.agg #[.string bq, .int .i64 (k : Int)], .string ⟨#[]⟩]) (by simp [results, Tryd.results21, go_sem, v0, v1]) rfl ⟨by rw [HCV.out], b5 _ _ (by omega) B4⟩
end Go.Proofs.YtcifakmlfndlaaaDoor
