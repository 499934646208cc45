import Derived.Test.YtcifakmlfndlaaaDoorTt8
namespace Go.Proofs.YtcifakmlfndlaaaDoor
set_option linter.unusedVariables false
set_option linter.unusedSimpArgs false
open Go.RowKit Go.Shelf
theorem prevN_zero (S : Bs) (h : mkS S = S) : prevN S 0 = 0 := by
  unfold prevN
  rw [h]
  have h0 := back_off S (k := 0) (Nat.zero_le _)
  rw [off_zero] at h0
  rw [show ((0 : Nat) : Int) = 0 from rfl] at h0
  rw [h0]; exact back_neg S (by omega)
theorem prevN_off {S : Bs} (h : mkS S = S) {k : Nat} (hk : k + 1 ≤ (cuts S).length) : prevN S (off (cuts S) (k + 1) : Int) = off (cuts S) k := by
  unfold prevN
  rw [h, back_off S hk, back_prev S hk]
theorem nextN_off {S : Bs} (h : mkS S = S) {k : Nat} (hk : k < (cuts S).length) : nextN S (off (cuts S) k : Int) = off (cuts S) (k + 1) := by
  unfold nextN
  rw [h, back_off S (by omega), back_next S hk]
theorem off_len (S : Bs) : off (cuts S) (cuts S).length = S.length := by rw [off_all _ _ (Nat.le_refl _), cuts_flat]
theorem off_eq_len {S : Bs} {k : Nat} (hk : k ≤ (cuts S).length) (h : off (cuts S) k = S.length) : k = (cuts S).length := by
  rcases Nat.lt_or_ge k (cuts S).length with h2 | h2
  · have := off_lt (cuts_nz S) h2 (Nat.le_refl _)
    rw [off_len] at this; omega
  · omega
theorem off_eq_zero {S : Bs} {k : Nat} (hk : k ≤ (cuts S).length) (h : off (cuts S) k = 0) : k = 0 := by
  rcases Nat.eq_zero_or_pos k with h2 | h2
  · exact h2
  · have := off_lt (cuts_nz S) h2 hk
    omega
/-- Where two clusters change places. -/
def swAt (S : Bs) (A : Nat) : Nat := if A = S.length then prevN S A else A
theorem swAt_is {S : Bs} (h : mkS S = S) {k : Nat} (hk : k ≤ (cuts S).length) : ∃ j, swAt S (off (cuts S) k) = off (cuts S) j ∧ (j = 0 ∨ j < (cuts S).length) ∧ j = (if k = (cuts S).length then k - 1 else k) := by
  unfold swAt
  by_cases he : off (cuts S) k = S.length
  · have hkn := off_eq_len hk he
    rw [if_pos he, if_pos hkn]
    cases k with
    | zero =>
      refine ⟨0, ?_, .inl rfl, rfl⟩
      rw [off_zero]
      exact prevN_zero S h
    | succ k => exact ⟨k, prevN_off h hk, .inr (by omega), by simp⟩
  · have hkn : k ≠ (cuts S).length := fun e => he (by rw [e, off_len])
    rw [if_neg he, if_neg hkn]
    exact ⟨k, rfl, .inr (by omega), rfl⟩
def swS (S : Bs) (F A T : Nat) : Bs := S.take F ++ (S.take T).drop A ++ (S.take A).drop F ++ S.drop T
def swV (l : Bs) (a : Int) : Value :=
  if swAt (mkS l) (back (mkS l) a) = 0 then .tuple #[bufV (mkS l) (back (mkS l) a), .bool false]
  else .tuple #[bufV (swS (mkS l) (prevN (mkS l) (swAt (mkS l) (back (mkS l) a))) (swAt (mkS l) (back (mkS l) a)) (nextN (mkS l) (swAt (mkS l) (back (mkS l) a))))
      (on (swS (mkS l) (prevN (mkS l) (swAt (mkS l) (back (mkS l) a))) (swAt (mkS l) (back (mkS l) a)) (nextN (mkS l) (swAt (mkS l) (back (mkS l) a)))) (nextN (mkS l) (swAt (mkS l) (back (mkS l) a)))), .bool true]
theorem sw_facts (l : Bs) (a : Int) (h0 : swAt (mkS l) (back (mkS l) a) ≠ 0) :
    prevN (mkS l) (swAt (mkS l) (back (mkS l) a)) ≤ swAt (mkS l) (back (mkS l) a) ∧ swAt (mkS l) (back (mkS l) a) ≤ nextN (mkS l) (swAt (mkS l) (back (mkS l) a)) ∧ nextN (mkS l) (swAt (mkS l) (back (mkS l) a)) ≤ (mkS l).length := by
  obtain ⟨k, hk, e⟩ := back_is (mkS l) a
  rw [e] at h0 ⊢
  obtain ⟨j, h1, h2, _⟩ := swAt_is (mkS_mkS l) hk.1
  rw [h1] at h0 ⊢
  have hj : j ≠ 0 := fun e2 => h0 (by rw [e2, off_zero])
  have hjn : j < (cuts (mkS l)).length := by omega
  obtain ⟨i, rfl⟩ : ∃ i, j = i + 1 := ⟨j - 1, by omega⟩
  rw [prevN_off (mkS_mkS l) (by omega), nextN_off (mkS_mkS l) hjn]
  exact ⟨off_mono _ (by omega), off_mono _ (by omega), off_le _ _⟩
theorem swS_len {S : Bs} {F A T : Nat} (h1 : F ≤ A) (h2 : A ≤ T) (h3 : T ≤ S.length) : (swS S F A T).length = S.length := by
  unfold swS
  simp only [List.length_append, List.length_take, List.length_drop]; omega
set_option maxHeartbeats 3200000 in
set_option maxRecDepth 100000 in
/-- Swap. -/
theorem Swap_calls (l : Bs) (hl : l.length ≤ 1000000) (s : ByteArray) (hs : s = ⟨l.toArray⟩) (a : Int) (w : World) (hU : U8 w) :
    Calls Tryd.prog 22 #[.agg #[.string s, .int .i64 a]] w fun e w' => e = .returned (swV l a) ∧ Below w.heap.size w w' := by
  obtain ⟨W0, hW0⟩ : ∃ W0, W0 = (w.alloc (.cells #[.string s, .int .i64 a] 25)).alloc (.cells #[.string ⟨#[]⟩, .int .i64 0] 25) := ⟨_, rfl⟩
  have hB0 : Below w.heap.size w W0 := by rw [hW0]; exact ((Below.refl _ w).alloc (Nat.le_refl _) _).alloc (by simp) _
  have hb0 : W0.heap[w.heap.size]? = some (.cells #[.string s, .int .i64 a] 25 (0, 0)) := by rw [hW0]; exact (Below.heap_alloc _ _ _ (by simp)).trans (heap_alloc_new w _)
  have hb1 : W0.heap[w.heap.size + 1]? = some (.cells #[.string ⟨#[]⟩, .int .i64 0] 25 (0, 0)) := by
    rw [hW0]
    have := heap_alloc_new (w.alloc (.cells #[.string s, .int .i64 a] 25)) (.cells #[.string ⟨#[]⟩, .int .i64 0] 25)
    rwa [World.size_alloc] at this
  have hz0 : W0.heap.size = w.heap.size + 1 + 1 := by rw [hW0]; simp
  obtain ⟨c0, c1, _, _⟩ := buf_cells hb0
  obtain ⟨bq, hbq⟩ : ∃ s : ByteArray, s = ⟨(mkS l).toArray⟩ := ⟨_, rfl⟩
  obtain ⟨k, hk⟩ : ∃ k, k = back (mkS l) a := ⟨_, rfl⟩
  obtain ⟨A, hA⟩ : ∃ n, n = swAt (mkS l) (back (mkS l) a) := ⟨_, rfl⟩
  have hml := mkS_len l
  have hkl := back_le (mkS l) a
  have hsf := sw_facts l a
  rw [← hA] at hsf
  rw [← hk] at hkl hA
  have zq : bq.size = (mkS l).length := by rw [hbq, str_of]
  have q1 := Make_calls l (by omega) s hs a W0 (hU.later hB0)
  rw [← hk, show bufV (mkS l) k = .agg #[.string bq, .int .i64 (k : Int)] by rw [hbq]] at q1
  have q2 := fun (W : World) (h : U8 W) => Pv_calls (mkS l) (by omega) bq hbq k W h
  have q3 := fun (W : World) (h : U8 W) => Pv_calls (mkS l) (by omega) bq hbq A W h
  have q4 := fun (W : World) (h : U8 W) => Nx_calls (mkS l) (by omega) bq hbq A W h
  have hAl : A ≤ 600 := by
    rw [hA]; unfold swAt
    split
    · unfold prevN; rw [mkS_mkS]; have := back_le (mkS l) ((back (mkS l) (k : Int) : Int) - 1); omega
    · omega
  have hA1 : bq.size = k → prevN (mkS l) k = A := fun h => by rw [hA]; unfold swAt; rw [if_pos (by omega)]
  have hA2 : bq.size ≠ k → k = A := fun h => by rw [hA]; unfold swAt; rw [if_neg (by omega)]
  have hsv : swV l a = if A = 0 then .tuple #[.agg #[.string bq, .int .i64 (k : Int)], .bool false] else .tuple #[bufV (swS (mkS l) (prevN (mkS l) A) A (nextN (mkS l) A)) (on (swS (mkS l) (prevN (mkS l) A) A (nextN (mkS l) A)) (nextN (mkS l) A)), .bool true] := by
    unfold swV
    rw [← hk, ← hA, hbq]
  have Q1 := Lib.hid q1
  have Q2 := Lib.hid q2
  have Q3 := Lib.hid q3
  have Q4 := Lib.hid q4
  have HB := Lib.hid hb0
  have HB1 := Lib.hid hb1
  have HW := Lib.hid hW0
  have HB0 := Lib.hid hB0
  have HU := Lib.hid hU
  have HQ := Lib.hid hbq
  have HK := Lib.hid hk
  have HA := Lib.hid hA
  have HA1 := Lib.hid hA1
  have HA2 := Lib.hid hA2
  have HSF := Lib.hid hsf
  have HSV := Lib.hid hsv
  have ZQ := Lib.hid zq
  have hq6 : bq.size ≤ 600 := by omega
  have hk6 : k ≤ 600 := by omega
  clear hs hU hbq hk hA q1 q2 q3 q4 hb0 hb1 hW0 hB0 hml hkl zq hl hA1 hA2 hsf hsv
  go_enter Tryd.func22, Tryd.ntmps22
  go_wp2_with fail
  rw [← HW.out]
  refine Q1.out.mono ?_
  rintro e w1 ⟨rfl, hb1⟩
  have h1 := (hb1.block w.heap.size (by omega)).trans HB.out
  have h1' := (hb1.block (w.heap.size + 1) (by omega)).trans HB1.out
  obtain ⟨d0, d1, f0, f1⟩ := buf_cells h1
  have H1 := Lib.hid h1
  have H1' := Lib.hid h1'
  have B1 := HB0.out.trans (hb1.mono (by omega))
  clear h1 h1' c0 c1
  go_upto_region 2 with fail
  obtain ⟨w2, e2, h2, d0, d1, b2⟩ := buf_set H1.out (.string bq) (.int .i64 (k : Int))
  rw [e2]
  have B2 : Below w.heap.size w w2 := b2 _ _ (Nat.le_refl _) B1
  have h2' : w2.heap[w.heap.size + 1]? = some (.cells #[.string ⟨#[]⟩, .int .i64 0] 25 (0, 0)) := by
    rw [← e2, Below.heap_setCell _ _ _ _ (by dsimp only; omega), Below.heap_setCell _ _ _ _ (by dsimp only; omega)]
    exact H1'.out
  have H2 := Lib.hid h2
  have H2' := Lib.hid h2'
  have hz2 : w.heap.size + 1 < w2.heap.size := lt_of_heap h2'
  have HB2 := Lib.hid B2
  clear e2 h2 h2' b2 f0 f1 B2 B1 hb1
  by_cases hsk : bq.size = k
  · have hd0 : ((k : Int) == (bq.size : Int)) = true := by simp; omega
    have hpa := HA1.out hsk
    have q2 := Q2.out
    rw [hpa] at q2
    have Q22 := Lib.hid q2
    clear q2 hpa hsk
    go_wp2_with fail
    refine (Q22.out w2 (HU.out.later HB2.out)).mono ?_
    rintro e w3 ⟨rfl, hb3⟩
    have h3 := (hb3.block w.heap.size (by omega)).trans H2.out
    have h3' := (hb3.block (w.heap.size + 1) (by omega)).trans H2'.out
    have HB3 := Lib.hid (HB2.out.trans (hb3.mono HB2.out.size))
    have hz3 := hb3.size
    clear d0 d1
    obtain ⟨d0, d1, _, _⟩ := buf_cells h3
    obtain ⟨r0, r1, g0, g1⟩ := buf_cells h3'
    have H3 := Lib.hid h3
    have H3' := Lib.hid h3'
    clear h3 h3' hb3 hd0 Q22
    by_cases hA0 : A = 0
    · have hd : ((A : Int) == 0) = true := by simp [hA0]
      have hsv : swV l a = .tuple #[.agg #[.string bq, .int .i64 (k : Int)], .bool false] := by rw [HSV.out, if_pos hA0]
      have HS := Lib.hid hsv
      have hA0' := hA0
      subst hA0'
      clear hsv hd
      go_wp2
      obtain ⟨W4, e4, _, v0, v1, b4⟩ := buf_set H3'.out (.string bq) (.int .i64 (k : Int))
      rw [e4]
      exact bodyPost_ret (v := .tuple #[.agg #[.string bq, .int .i64 (k : Int)], .bool false]) (by simp [results, Tryd.results22, go_sem, v0, v1]) rfl ⟨by rw [HS.out], b4 _ _ (by omega) HB3.out⟩
    · have hd : ((A : Int) == 0) = false := by simp; omega
      obtain ⟨i1, i2, i3⟩ := HSF.out hA0
      obtain ⟨F, hF⟩ : ∃ n, n = prevN (mkS l) A := ⟨_, rfl⟩
      obtain ⟨T, hT⟩ : ∃ n, n = nextN (mkS l) A := ⟨_, rfl⟩
      have hsv := HSV.out
      rw [if_neg hA0] at hsv
      rw [← hF, ← hT] at hsv
      rw [← hF] at i1
      rw [← hT] at i2 i3
      have q3 := Q3.out
      have q4 := Q4.out
      rw [← hF] at q3
      rw [← hT] at q4
      have hz : bq.size = (mkS l).length := ZQ.out
      have hTq : (T : Int) ≤ (bq.size : Int) := by omega
      have hFA : (F : Int) ≤ (A : Int) := by omega
      have hAT : (A : Int) ≤ (T : Int) := by omega
      have hAq : (A : Int) ≤ (bq.size : Int) := by omega
      have hFq : (F : Int) ≤ (bq.size : Int) := by omega
      have hF0 : (0 : Int) ≤ (F : Int) := by omega
      have hA00 : (0 : Int) ≤ (A : Int) := by omega
      have hT0 : (0 : Int) ≤ (T : Int) := by omega
      obtain ⟨x1, hx1⟩ : ∃ x : ByteArray, x = bq.extract 0 F := ⟨_, rfl⟩
      obtain ⟨x2, hx2⟩ : ∃ x : ByteArray, x = bq.extract A T := ⟨_, rfl⟩
      obtain ⟨x3, hx3⟩ : ∃ x : ByteArray, x = bq.extract F A := ⟨_, rfl⟩
      obtain ⟨x4, hx4⟩ : ∃ x : ByteArray, x = bq.extract T bq.size := ⟨_, rfl⟩
      have y1 : x1 = ⟨((mkS l).take F).toArray⟩ := by rw [hx1, HQ.out, extract_eq]; simp
      have y2 : x2 = ⟨(((mkS l).take T).drop A).toArray⟩ := by rw [hx2, HQ.out, extract_eq]
      have y3 : x3 = ⟨(((mkS l).take A).drop F).toArray⟩ := by rw [hx3, HQ.out, extract_eq]
      have y4 : x4 = ⟨((mkS l).drop T).toArray⟩ := by rw [hx4, ZQ.out, HQ.out, extract_eq, List.take_length]
      obtain ⟨u1, hu1⟩ : ∃ x : ByteArray, x = ⟨((mkS l).take F ++ ((mkS l).take T).drop A).toArray⟩ := ⟨_, rfl⟩
      obtain ⟨u2, hu2⟩ : ∃ x : ByteArray, x = ⟨((mkS l).take F ++ ((mkS l).take T).drop A ++ ((mkS l).take A).drop F).toArray⟩ := ⟨_, rfl⟩
      obtain ⟨u3, hu3⟩ : ∃ x : ByteArray, x = ⟨(swS (mkS l) F A T).toArray⟩ := ⟨_, rfl⟩
      have l1 : (mkS l).length ≤ 600 := mkS_len l
      have a1 := fun W => add_any y1 y2 (by simp only [List.length_take, List.length_drop]; omega) W
      rw [← hu1] at a1
      have a2 := fun W => add_any hu1 y3 (by simp only [List.length_append, List.length_take, List.length_drop]; omega) W
      rw [← hu2] at a2
      have a3 := fun W => add_any hu2 y4 (by simp only [List.length_append, List.length_take, List.length_drop]; omega) W
      rw [show (mkS l).take F ++ ((mkS l).take T).drop A ++ ((mkS l).take A).drop F ++ (mkS l).drop T = swS (mkS l) F A T from rfl, ← hu3] at a3
      have sl := swS_len (S := mkS l) (F := F) (A := A) (T := T) (by omega) (by omega) (by omega)
      have q5 := fun (W : World) => on_calls (swS (mkS l) F A T) (by omega) u3 hu3 (T : Int) W
      obtain ⟨B, hB⟩ : ∃ n, n = on (swS (mkS l) F A T) (T : Int) := ⟨_, rfl⟩
      rw [← hB] at q5 hsv
      rw [show bufV (swS (mkS l) F A T) B = .agg #[.string u3, .int .i64 (B : Int)] by rw [hu3]] at hsv
      have Q33 := Lib.hid q3
      have Q44 := Lib.hid q4
      have Q5 := Lib.hid q5
      have HS := Lib.hid hsv
      have hT6 : T ≤ 600 := by omega
      clear q3 q4 q5 hsv hF hT i1 i2 i3 hz y1 y2 y3 y4 hu1 hu2 hu3 l1 sl hB Q3 Q4 Q2
      subst hx1 hx2 hx3 hx4
      go_wp2_with fail
      go_region_held3 (fun w' => w'.cell? ⟨w.heap.size, 0, none⟩ = some (.string bq)) (first | exact d0 | exact x0 | exact z0) (first
        | (go_at_call 25; refine (Q33.out w3.drew (HU.out.later HB3.out.drew)).mono ?_; rintro e w5 ⟨rfl, hb5⟩; have D5 : Below w3.heap.size w3 w5 := ((Below.refl _ w3).drew).trans hb5; obtain ⟨x0, x1, _, _⟩ := buf_cells ((D5.block _ (by omega)).trans H3.out); have B5 : Below w.heap.size w w5 := HB3.out.trans (D5.mono HB3.out.size))
        | (go_at_call 26; refine (Q44.out w5 (HU.out.later B5)).mono ?_; rintro e w6 ⟨rfl, hb6⟩; have D6 : Below w3.heap.size w3 w6 := D5.trans (hb6.mono D5.size); obtain ⟨z0, z1, _, _⟩ := buf_cells ((D6.block _ (by omega)).trans H3.out); have B6 : Below w.heap.size w w6 := B5.trans (hb6.mono B5.size)))
      have h6' := (D6.block (w.heap.size + 1) (by omega)).trans H3'.out
      have H6' := Lib.hid h6'
      have HB6 := Lib.hid B6
      clear h6' d0 d1 x0 x1 B5 B6 hb5 hb6 D5 D6
      go_wp2_with fail
      go_quiet (fail)
      rename_i nq
      have B7 : Below w.heap.size w (w6.drewN nq) := ⟨HB6.out.os, HB6.out.tape, HB6.out.output, HB6.out.size, HB6.out.block⟩
      go_wp2_with fail
      refine (Q5.out _).mono ?_
      rintro e w8 ⟨rfl, hb8⟩
      have h8' : w8.heap[w.heap.size + 1]? = some (.cells #[.string ⟨#[]⟩, .int .i64 0] 25 (0, 0)) := (hb8.block (w.heap.size + 1) (lt_of_heap H6'.out)).trans H6'.out
      obtain ⟨s0, s1, g2, g3⟩ := buf_cells h8'
      have B8 := B7.trans (hb8.mono B7.size)
      have H8' := Lib.hid h8'
      clear h8'
      go_wp2
      obtain ⟨W4, e4, _, v0, v1, b4⟩ := buf_set H8'.out (.string u3) (.int .i64 (B : Int))
      rw [e4]
      exact bodyPost_ret (v := .tuple #[.agg #[.string u3, .int .i64 (B : Int)], .bool true]) (by simp [results, Tryd.results22, go_sem, v0, v1]) rfl ⟨by rw [HS.out], b4 _ _ (by omega) B8⟩
  · have hd0 : ((k : Int) == (bq.size : Int)) = false := by simp; omega
    have hd0' : (k == bq.size) = false := by simp; omega
    have hka := HA2.out (fun h => hsk h)
    obtain rfl : A = k := hka.symm
    obtain ⟨r0, r1, g0, g1⟩ := buf_cells H2'.out
    have H3 := H2
    have H3' := H2'
    have HB3 := HB2
    have hz3 := hz2
    obtain ⟨w3, hw3⟩ : ∃ W, W = w2 := ⟨_, rfl⟩
    subst hw3
    clear H2 H2' HB2 hz2
    by_cases hA0 : A = 0
    · have hd : ((A : Int) == 0) = true := by simp [hA0]
      have hsv : swV l a = .tuple #[.agg #[.string bq, .int .i64 (A : Int)], .bool false] := by rw [HSV.out, if_pos hA0]
      have HS := Lib.hid hsv
      have hA0' := hA0
      subst hA0'
      clear hsv hd
      go_wp2
      obtain ⟨W4, e4, _, v0, v1, b4⟩ := buf_set H3'.out (.string bq) (.int .i64 0)
      rw [e4]
      exact bodyPost_ret (v := .tuple #[.agg #[.string bq, .int .i64 0], .bool false]) (by simp [results, Tryd.results22, go_sem, v0, v1]) rfl ⟨by rw [HS.out]; rfl, b4 _ _ (by omega) HB3.out⟩
    · have hd : ((A : Int) == 0) = false := by simp; omega
      obtain ⟨i1, i2, i3⟩ := HSF.out hA0
      obtain ⟨F, hF⟩ : ∃ n, n = prevN (mkS l) A := ⟨_, rfl⟩
      obtain ⟨T, hT⟩ : ∃ n, n = nextN (mkS l) A := ⟨_, rfl⟩
      have hsv := HSV.out
      rw [if_neg hA0] at hsv
      rw [← hF, ← hT] at hsv
      rw [← hF] at i1
      rw [← hT] at i2 i3
      have q3 := Q3.out
      have q4 := Q4.out
      rw [← hF] at q3
      rw [← hT] at q4
      have hz : bq.size = (mkS l).length := ZQ.out
      have hTq : (T : Int) ≤ (bq.size : Int) := by omega
      have hFA : (F : Int) ≤ (A : Int) := by omega
      have hAT : (A : Int) ≤ (T : Int) := by omega
      have hAq : (A : Int) ≤ (bq.size : Int) := by omega
      have hFq : (F : Int) ≤ (bq.size : Int) := by omega
      have hF0 : (0 : Int) ≤ (F : Int) := by omega
      have hA00 : (0 : Int) ≤ (A : Int) := by omega
      have hT0 : (0 : Int) ≤ (T : Int) := by omega
      obtain ⟨x1, hx1⟩ : ∃ x : ByteArray, x = bq.extract 0 F := ⟨_, rfl⟩
      obtain ⟨x2, hx2⟩ : ∃ x : ByteArray, x = bq.extract A T := ⟨_, rfl⟩
      obtain ⟨x3, hx3⟩ : ∃ x : ByteArray, x = bq.extract F A := ⟨_, rfl⟩
      obtain ⟨x4, hx4⟩ : ∃ x : ByteArray, x = bq.extract T bq.size := ⟨_, rfl⟩
      have y1 : x1 = ⟨((mkS l).take F).toArray⟩ := by rw [hx1, HQ.out, extract_eq]; simp
      have y2 : x2 = ⟨(((mkS l).take T).drop A).toArray⟩ := by rw [hx2, HQ.out, extract_eq]
      have y3 : x3 = ⟨(((mkS l).take A).drop F).toArray⟩ := by rw [hx3, HQ.out, extract_eq]
      have y4 : x4 = ⟨((mkS l).drop T).toArray⟩ := by rw [hx4, ZQ.out, HQ.out, extract_eq, List.take_length]
      obtain ⟨u1, hu1⟩ : ∃ x : ByteArray, x = ⟨((mkS l).take F ++ ((mkS l).take T).drop A).toArray⟩ := ⟨_, rfl⟩
      obtain ⟨u2, hu2⟩ : ∃ x : ByteArray, x = ⟨((mkS l).take F ++ ((mkS l).take T).drop A ++ ((mkS l).take A).drop F).toArray⟩ := ⟨_, rfl⟩
      obtain ⟨u3, hu3⟩ : ∃ x : ByteArray, x = ⟨(swS (mkS l) F A T).toArray⟩ := ⟨_, rfl⟩
      have l1 : (mkS l).length ≤ 600 := mkS_len l
      have a1 := fun W => add_any y1 y2 (by simp only [List.length_take, List.length_drop]; omega) W
      rw [← hu1] at a1
      have a2 := fun W => add_any hu1 y3 (by simp only [List.length_append, List.length_take, List.length_drop]; omega) W
      rw [← hu2] at a2
      have a3 := fun W => add_any hu2 y4 (by simp only [List.length_append, List.length_take, List.length_drop]; omega) W
      rw [show (mkS l).take F ++ ((mkS l).take T).drop A ++ ((mkS l).take A).drop F ++ (mkS l).drop T = swS (mkS l) F A T from rfl, ← hu3] at a3
      have sl := swS_len (S := mkS l) (F := F) (A := A) (T := T) (by omega) (by omega) (by omega)
      have q5 := fun (W : World) => on_calls (swS (mkS l) F A T) (by omega) u3 hu3 (T : Int) W
      obtain ⟨B, hB⟩ : ∃ n, n = on (swS (mkS l) F A T) (T : Int) := ⟨_, rfl⟩
      rw [← hB] at q5 hsv
      rw [show bufV (swS (mkS l) F A T) B = .agg #[.string u3, .int .i64 (B : Int)] by rw [hu3]] at hsv
      have Q33 := Lib.hid q3
      have Q44 := Lib.hid q4
      have Q5 := Lib.hid q5
      have HS := Lib.hid hsv
      have hT6 : T ≤ 600 := by omega
      clear q3 q4 q5 hsv hF hT i1 i2 i3 hz y1 y2 y3 y4 hu1 hu2 hu3 l1 sl hB Q3 Q4 Q2
      subst hx1 hx2 hx3 hx4
      go_wp2_with fail
      go_region_held3 (fun w' => w'.cell? ⟨w.heap.size, 0, none⟩ = some (.string bq)) (first | exact d0 | exact x0 | exact z0) (first
        | (go_at_call 25; refine (Q33.out w3.drew (HU.out.later HB3.out.drew)).mono ?_; rintro e w5 ⟨rfl, hb5⟩; have D5 : Below w3.heap.size w3 w5 := ((Below.refl _ w3).drew).trans hb5; obtain ⟨x0, x1, _, _⟩ := buf_cells ((D5.block _ (by omega)).trans H3.out); have B5 : Below w.heap.size w w5 := HB3.out.trans (D5.mono HB3.out.size))
        | (go_at_call 26; refine (Q44.out w5 (HU.out.later B5)).mono ?_; rintro e w6 ⟨rfl, hb6⟩; have D6 : Below w3.heap.size w3 w6 := D5.trans (hb6.mono D5.size); obtain ⟨z0, z1, _, _⟩ := buf_cells ((D6.block _ (by omega)).trans H3.out); have B6 : Below w.heap.size w w6 := B5.trans (hb6.mono B5.size)))
      have h6' := (D6.block (w.heap.size + 1) (by omega)).trans H3'.out
      have H6' := Lib.hid h6'
      have HB6 := Lib.hid B6
      clear h6' d0 d1 x0 x1 B5 B6 hb5 hb6 D5 D6
      go_wp2_with fail
      go_quiet (fail)
      rename_i nq
      have B7 : Below w.heap.size w (w6.drewN nq) := ⟨HB6.out.os, HB6.out.tape, HB6.out.output, HB6.out.size, HB6.out.block⟩
      go_wp2_with fail
      refine (Q5.out _).mono ?_
      rintro e w8 ⟨rfl, hb8⟩
      have h8' : w8.heap[w.heap.size + 1]? = some (.cells #[.string ⟨#[]⟩, .int .i64 0] 25 (0, 0)) := (hb8.block (w.heap.size + 1) (lt_of_heap H6'.out)).trans H6'.out
      obtain ⟨s0, s1, g2, g3⟩ := buf_cells h8'
      have B8 := B7.trans (hb8.mono B7.size)
      have H8' := Lib.hid h8'
      clear h8'
      go_wp2
      obtain ⟨W4, e4, _, v0, v1, b4⟩ := buf_set H8'.out (.string u3) (.int .i64 (B : Int))
      rw [e4]
      exact bodyPost_ret (v := .tuple #[.agg #[.string u3, .int .i64 (B : Int)], .bool true]) (by simp [results, Tryd.results22, go_sem, v0, v1]) rfl ⟨by rw [HS.out], b4 _ _ (by omega) B8⟩
end Go.Proofs.YtcifakmlfndlaaaDoor
