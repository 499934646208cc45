import Derived.Test.YtcifakmlfndlaaaDoorTt7
import Derived.StillTailTactics
namespace Go.Proofs.YtcifakmlfndlaaaDoor
set_option linter.unusedVariables false
set_option linter.unusedSimpArgs false
open Go.RowKit Go.Shelf
def cutS (S : Bs) (F T : Nat) : Bs := S.take F ++ S.drop T
def cutG (S : Bs) (F T : Nat) : Bs := (S.take T).drop F
def cutAt (A F T : Nat) : Int := if F < A then max (F : Int) ((A : Int) - ((T : Int) - (F : Int))) else (A : Int)
def cutV (l : Bs) (a f t : Int) : Value :=
  if back (mkS l) f < back (mkS l) t then .tuple #[bufV (cutS (mkS l) (back (mkS l) f) (back (mkS l) t)) (back (cutS (mkS l) (back (mkS l) f) (back (mkS l) t)) (cutAt (back (mkS l) a) (back (mkS l) f) (back (mkS l) t))), .string ⟨(cutG (mkS l) (back (mkS l) f) (back (mkS l) t)).toArray⟩]
  else .tuple #[bufV (mkS l) (back (mkS l) a), .string ⟨#[]⟩]
theorem cutV_no {l : Bs} {a f t : Int} (h : ¬ back (mkS l) f < back (mkS l) t) : cutV l a f t = .tuple #[bufV (mkS l) (back (mkS l) a), .string ⟨#[]⟩] := by unfold cutV; rw [if_neg h]
theorem cutS_pl {S : Bs} (h : Pl S) (f t : Int) : Pl (cutS S (back S f) (back S t)) := by
  obtain ⟨k, _, h1⟩ := back_is S f
  obtain ⟨j, _, h2⟩ := back_is S t
  unfold cutS
  rw [h1, h2]
  exact (h.take k).app (h.drop j)
theorem cutS_len {S : Bs} {F T : Nat} (h : F ≤ T) : (cutS S F T).length ≤ S.length := by
  unfold cutS
  rw [List.length_append, List.length_take, List.length_drop]; omega
set_option maxHeartbeats 3200000 in
set_option maxRecDepth 100000 in
/-- Cut. -/
theorem Cut3_calls (l : Bs) (hl : l.length ≤ 1000000) (s : ByteArray) (hs : s = ⟨l.toArray⟩) (a f t : Int) (w : World) (hU : U8 w) :
    Calls Tryd.prog 20 #[.agg #[.string s, .int .i64 a], .int .i64 f, .int .i64 t] w fun e w' => e = .returned (cutV l a f t) ∧ Below w.heap.size w w' := by
  obtain ⟨W0, hW0⟩ : ∃ W0, W0 = (w.alloc (.cells #[.string s, .int .i64 a] 25)).alloc (.cells #[.string ⟨#[]⟩, .int .i64 0] 25) := ⟨_, rfl⟩
  have hB0 : Below w.heap.size w W0 := by rw [hW0]; exact ((Below.refl _ w).alloc (Nat.le_refl _) _).alloc (by simp) _
  have hb0 : W0.heap[w.heap.size]? = some (.cells #[.string s, .int .i64 a] 25 (0, 0)) := by rw [hW0]; exact (Below.heap_alloc _ _ _ (by simp)).trans (heap_alloc_new w _)
  have hb1 : W0.heap[w.heap.size + 1]? = some (.cells #[.string ⟨#[]⟩, .int .i64 0] 25 (0, 0)) := by
    rw [hW0]
    have := heap_alloc_new (w.alloc (.cells #[.string s, .int .i64 a] 25)) (.cells #[.string ⟨#[]⟩, .int .i64 0] 25)
    rwa [World.size_alloc] at this
  have hz0 : W0.heap.size = w.heap.size + 1 + 1 := by rw [hW0]; simp
  obtain ⟨c0, c1, _, _⟩ := buf_cells hb0
  obtain ⟨bq, hbq⟩ : ∃ s : ByteArray, s = ⟨(mkS l).toArray⟩ := ⟨_, rfl⟩
  obtain ⟨k, hk⟩ : ∃ k, k = back (mkS l) a := ⟨_, rfl⟩
  obtain ⟨F, hF⟩ : ∃ k, k = back (mkS l) f := ⟨_, rfl⟩
  obtain ⟨T, hT⟩ : ∃ k, k = back (mkS l) t := ⟨_, rfl⟩
  have hml := mkS_len l
  have hkl := back_le (mkS l) a
  have hfl := back_le (mkS l) f
  have htl := back_le (mkS l) t
  rw [← hk] at hkl
  rw [← hF] at hfl
  rw [← hT] at htl
  have zq : bq.size = (mkS l).length := by rw [hbq, str_of]
  have q1 := Make_calls l (by omega) s hs a W0 (hU.later hB0)
  rw [← hk, show bufV (mkS l) k = .agg #[.string bq, .int .i64 (k : Int)] by rw [hbq]] at q1
  have q2 := fun (W : World) => back_calls (mkS l) (by omega) bq hbq f W
  have q3 := fun (W : World) => back_calls (mkS l) (by omega) bq hbq t W
  rw [← hF] at q2
  rw [← hT] at q3
  have Q1 := Lib.hid q1
  have Q2 := Lib.hid q2
  have Q3 := Lib.hid q3
  have HB := Lib.hid hb0
  have HB1 := Lib.hid hb1
  have HW := Lib.hid hW0
  have HB0 := Lib.hid hB0
  have HU := Lib.hid hU
  have HQ := Lib.hid hbq
  have HK := Lib.hid hk
  have HFF := Lib.hid hF
  have HTT := Lib.hid hT
  have hq6 : bq.size ≤ 600 := by omega
  have hk6 : k ≤ 600 := by omega
  have hf6 : F ≤ 600 := by omega
  have ht6 : T ≤ 600 := by omega
  have ZQ := Lib.hid zq
  have hfq : (F : Int) ≤ (bq.size : Int) := by omega
  have htq : (T : Int) ≤ (bq.size : Int) := by omega
  have hf0 : (0 : Int) ≤ (F : Int) := by omega
  have ht0 : (0 : Int) ≤ (T : Int) := by omega
  clear hs hU hbq hk hF hT q1 q2 q3 hb0 hb1 hW0 hB0 hml hkl hfl htl zq hl
  go_enter Tryd.func20, Tryd.ntmps20
  go_wp2_with fail
  rw [← HW.out]
  refine Q1.out.mono ?_
  rintro e w1 ⟨rfl, hb1⟩
  have h1 := (hb1.block w.heap.size (by omega)).trans HB.out
  have h1' := (hb1.block (w.heap.size + 1) (by omega)).trans HB1.out
  obtain ⟨d0, d1, f0, f1⟩ := buf_cells h1
  have H1 := Lib.hid h1
  have H1' := Lib.hid h1'
  have B1 := HB0.out.trans (hb1.mono (by omega))
  clear h1 h1' c0 c1
  go_wp2_with fail
  obtain ⟨w2, e2, h2, d0, d1, b2⟩ := buf_set H1.out (.string bq) (.int .i64 (k : Int))
  rw [e2]
  have B2 : Below w.heap.size w w2 := b2 _ _ (Nat.le_refl _) B1
  have h2' : w2.heap[w.heap.size + 1]? = some (.cells #[.string ⟨#[]⟩, .int .i64 0] 25 (0, 0)) := by
    rw [← e2, Below.heap_setCell _ _ _ _ (by dsimp only; omega), Below.heap_setCell _ _ _ _ (by dsimp only; omega)]
    exact H1'.out
  have H2 := Lib.hid h2
  have H2' := Lib.hid h2'
  have hz2 : w.heap.size + 1 < w2.heap.size := lt_of_heap h2'
  clear e2 h2 h2' b2 f0 f1
  go_region_held3 (fun w' => w'.cell? ⟨w.heap.size, 0, none⟩ = some (.string bq)) (first | exact d0 | exact x0 | exact z0) (first
    | (go_at_call 30; (with_reducible refine (Q2.out w2.drew).mono ?_); rintro e w3 ⟨rfl, hb3⟩; have D3 : Below w2.heap.size w2 w3 := ((Below.refl _ w2).drew).trans hb3; obtain ⟨x0, x1, _, _⟩ := buf_cells ((D3.block _ (by omega)).trans H2.out))
    | (go_at_call 30; (with_reducible refine (Q3.out w3).mono ?_); rintro e w4 ⟨rfl, hb4⟩; have D4 : Below w2.heap.size w2 w4 := D3.trans (hb4.mono D3.size); obtain ⟨z0, z1, _, _⟩ := buf_cells ((D4.block _ (by omega)).trans H2.out)))
  have h4' := (D4.block (w.heap.size + 1) (by omega)).trans H2'.out
  obtain ⟨r0, r1, g0, g1⟩ := buf_cells h4'
  have H4' := Lib.hid h4'
  have B4 := B2.trans (D4.mono B2.size)
  have hz4 := lt_of_heap h4'
  clear h4' d0 d1 x0 x1
  by_cases hft : F < T
  · have hd : decide ((T : Int) ≤ (F : Int)) = false := by simp; omega
    obtain ⟨x2, hx2⟩ : ∃ x : ByteArray, x = bq.extract F T := ⟨_, rfl⟩
    have y2 : x2 = ⟨(cutG (mkS l) F T).toArray⟩ := by rw [hx2, HQ.out, extract_eq]; rfl
    have zx : (x2.size : Int) = (T : Int) - (F : Int) := by
      rw [y2, str_of]
      unfold cutG
      rw [List.length_drop, List.length_take]
      have := ZQ.out
      omega
    obtain ⟨at', hat⟩ : ∃ z : Int, z = cutAt k F T := ⟨_, rfl⟩
    obtain ⟨u1, hu1⟩ : ∃ x : ByteArray, x = bq.extract 0 F := ⟨_, rfl⟩
    obtain ⟨u2, hu2⟩ : ∃ x : ByteArray, x = bq.extract T bq.size := ⟨_, rfl⟩
    have y3 : u1 = ⟨((mkS l).take F).toArray⟩ := by rw [hu1, HQ.out, extract_eq]; simp
    have y4 : u2 = ⟨((mkS l).drop T).toArray⟩ := by rw [hu2, ZQ.out, HQ.out, extract_eq, List.take_length]
    obtain ⟨u3, hu3⟩ : ∃ x : ByteArray, x = ⟨(cutS (mkS l) F T).toArray⟩ := ⟨_, rfl⟩
    have l1 : (mkS l).length ≤ 600 := mkS_len l
    have a1 := fun W => add_any y3 y4 (by rw [List.length_take, List.length_drop]; omega) W
    rw [show (mkS l).take F ++ (mkS l).drop T = cutS (mkS l) F T from rfl, ← hu3] at a1
    have hp := cutS_pl (mkS_pl l) f t
    rw [← HFF.out, ← HTT.out] at hp
    have hl2 := cutS_len (S := mkS l) (show F ≤ T by omega)
    have hid := mkS_id hp (by omega)
    have q5 := fun (W : World) (h : U8 W) => Make_calls (cutS (mkS l) F T) (by omega) u3 hu3 at' W h
    rw [hid] at q5
    obtain ⟨A', hA'⟩ : ∃ n, n = back (cutS (mkS l) F T) at' := ⟨_, rfl⟩
    rw [← hA', show bufV (cutS (mkS l) F T) A' = .agg #[.string u3, .int .i64 (A' : Int)] by rw [hu3]] at q5
    have hcv : cutV l a f t = .tuple #[.agg #[.string u3, .int .i64 (A' : Int)], .string x2] := by
      unfold cutV
      rw [← HFF.out, ← HTT.out, if_pos hft, ← HK.out, ← hat, ← hA', hu3, y2]
    have Q5 := Lib.hid q5
    have HCV := Lib.hid hcv
    have HAT := Lib.hid hat
    have HX2 := Lib.hid hx2
    clear y2 y3 y4 hu3 l1 hp hl2 hid q5 hcv hA' hat hx2
    subst hu1 hu2
    have hd2 : decide (T ≤ F) = false := by simp; omega
    by_cases hfk : F < k
    · have hd3 : decide ((F : Int) < (k : Int)) = true := by simp; omega
      have hd4 : decide (F < k) = true := by simp; omega
      have hmx : max (F : Int) ((k : Int) - ((min T bq.size - F : Nat) : Int)) = at' := by
        rw [HAT.out]; unfold cutAt; rw [if_pos hfk]; congr 1; omega
      clear zx
      go_wp2_with fail
      have h5 : w4.drew.heap[w.heap.size + 1]? = some (.cells #[.string ⟨#[]⟩, .int .i64 0] 25 (0, 0)) := H4'.out
      have H5 := Lib.hid h5
      have HB5 := Lib.hid (show Below w.heap.size w w4.drew from B4.drew)
      have hz5 := B4.size
      clear h5 r0 r1 g0 g1 B4
      first
        | (go_region_with (go_at_call 12; refine (Q5.out w4.drew (HU.out.later HB5.out)).mono ?_; rintro e w6 ⟨rfl, hb6⟩; have h6 := (hb6.block (w.heap.size + 1) (lt_of_heap H5.out)).trans H5.out; obtain ⟨r0, r1, g0, g1⟩ := buf_cells h6; have H6 := Lib.hid h6; have B6 := HB5.out.trans (hb6.mono hz5); clear h6))
        | fail
      all_goals
        go_wp2
        obtain ⟨W7, e7, _, v0, v1, b7⟩ := buf_set H6.out (.string u3) (.int .i64 (A' : Int))
        rw [e7]
        exact bodyPost_ret (v := .tuple #[.agg #[.string u3, .int .i64 (A' : Int)], .string (bq.extract F T)]) (by simp [results, Tryd.results20, go_sem, v0, v1]) rfl ⟨by rw [HCV.out, HX2.out], b7 _ _ (by omega) B6⟩
    · have hd3 : decide ((F : Int) < (k : Int)) = false := by simp; omega
      have hd4 : decide (F < k) = false := by simp; omega
      have hak : at' = (k : Int) := by rw [HAT.out]; unfold cutAt; rw [if_neg hfk]
      clear zx HAT
      subst hak
      go_wp2_with fail
      have h5 : w4.drew.heap[w.heap.size + 1]? = some (.cells #[.string ⟨#[]⟩, .int .i64 0] 25 (0, 0)) := H4'.out
      have H5 := Lib.hid h5
      have HB5 := Lib.hid (show Below w.heap.size w w4.drew from B4.drew)
      have hz5 := B4.size
      clear h5 r0 r1 g0 g1 B4
      first
        | (go_region_with (go_at_call 12; refine (Q5.out w4.drew (HU.out.later HB5.out)).mono ?_; rintro e w6 ⟨rfl, hb6⟩; have h6 := (hb6.block (w.heap.size + 1) (lt_of_heap H5.out)).trans H5.out; obtain ⟨r0, r1, g0, g1⟩ := buf_cells h6; have H6 := Lib.hid h6; have B6 := HB5.out.trans (hb6.mono hz5); clear h6))
        | fail
      all_goals
        go_wp2
        obtain ⟨W7, e7, _, v0, v1, b7⟩ := buf_set H6.out (.string u3) (.int .i64 (A' : Int))
        rw [e7]
        exact bodyPost_ret (v := .tuple #[.agg #[.string u3, .int .i64 (A' : Int)], .string (bq.extract F T)]) (by simp [results, Tryd.results20, go_sem, v0, v1]) rfl ⟨by rw [HCV.out, HX2.out], b7 _ _ (by omega) B6⟩
  · have hd : decide ((T : Int) ≤ (F : Int)) = true := by simp; omega
    have hd2 : decide (T ≤ F) = true := by simp; omega
    have hcv : cutV l a f t = .tuple #[.agg #[.string bq, .int .i64 (k : Int)], .string ⟨#[]⟩] := by
      rw [cutV_no (by rw [← HFF.out, ← HTT.out]; exact hft), ← HK.out, HQ.out]
    have HCV := Lib.hid hcv
    clear hcv
    go_wp2
    obtain ⟨W5, e5, _, v0, v1, b5⟩ := buf_set H4'.out (.string bq) (.int .i64 (k : Int))
    rw [e5]
    exact bodyPost_ret (v := .tuple #[.agg #[.string bq, .int .i64 (k : Int)], .string ⟨#[]⟩]) (by simp [results, Tryd.results20, go_sem, v0, v1]) rfl ⟨by rw [HCV.out], b5 _ _ (by omega) B4⟩
end Go.Proofs.YtcifakmlfndlaaaDoor
