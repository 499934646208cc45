import Derived.Test.YtcifakmlfndlaaaDoorTt25
import Derived.Test.YtcifakmlfndlaaaDoorTt23
namespace Go.Proofs.YtcifakmlfndlaaaDoor
set_option linter.unusedVariables false
set_option linter.unusedSimpArgs false
open Go.RowKit Go.Shelf
theorem swS_pl (S : Bs) (h : Pl S) (j : Nat) : Pl (swS S (off (cuts S) (j - 1)) (off (cuts S) j) (off (cuts S) (j + 1))) := by
  have e : ∀ i k, Pl ((S.take (off (cuts S) k)).drop (off (cuts S) i)) := fun i k => by
    have h1 := (h.take k).drop
    rcases Nat.le_total k i with hik | hik
    · have h2 := off_mono (cuts S) hik
      have : (S.take (off (cuts S) k)).drop (off (cuts S) i) = [] := List.drop_eq_nil_of_le (by rw [List.length_take]; omega)
      rw [this]; exact Pl.nil
    · have h3 : (S.take (off (cuts S) k)).drop (off (cuts S) i) = (((cuts S).drop i).take (k - i)).flatten := by
        rw [cut_take]
        have e1 : ((cuts S).take k).flatten = ((cuts S).take i).flatten ++ (((cuts S).drop i).take (k - i)).flatten := by
          rw [← List.flatten_append]
          congr 1
          have := List.take_add (l := cuts S) (i := i) (j := k - i)
          rw [show i + (k - i) = k by omega] at this
          exact this
        rw [e1]
        exact List.drop_left
      rw [h3]
      exact h.mid i (k - i)
  unfold swS
  exact (((h.take _).app (e _ _)).app (e _ _)).app (h.drop _)
theorem sw_both (l : Bs) (a : Int) : ∃ (R : Bs) (x : Nat) (ok : Bool), swV l a = .tuple #[bufV R x, .bool ok] ∧ rightB R x = true ∧ R.length = (mkS l).length := by
  have hl := mkS_len l
  obtain ⟨k, hk, hb, h1, h2⟩ := swV_is l a
  by_cases hc : k = 0 ∨ (cuts (mkS l)).length < 2
  · exact ⟨_, _, _, h1 hc, right_back (mkS_pl l) hl a, rfl⟩
  · have h3 := h2 (by omega) (by omega) _ rfl
    obtain ⟨j, hj⟩ : ∃ j, j = (if k = (cuts (mkS l)).length then k - 1 else k) := ⟨_, rfl⟩
    rw [← hj] at h3
    have hj2 : 1 ≤ j ∧ j < (cuts (mkS l)).length := by split at hj <;> omega
    obtain ⟨f1, f2, f3⟩ := swL_flat (mkS l) hj2.1 hj2.2
    have hlen : (swL (cuts (mkS l)) j).flatten.length = (mkS l).length := by
      rw [f1, swS_len (off_mono _ (by omega)) (off_mono _ (by omega)) (off_le _ _)]
    refine ⟨_, _, _, h3, right_on (by rw [f1]; exact swS_pl _ (mkS_pl l) j) (by omega) _, hlen⟩
set_option maxRecDepth 100000 in
set_option maxHeartbeats 3200000 in
theorem TextSwaps_walk (w : World) (hU : U8 w) (s : ByteArray) (a : Int) (hs : s.size ≤ 140737488351232) :
    Calls Tryd.prog 6 #[.agg #[.string s, .int .i64 a]] w fun e w' => e = .returned (.bool true) ∧ Below w.heap.size w w' := by
  obtain ⟨l, hsl⟩ : ∃ l : Bs, s = ⟨l.toArray⟩ := ⟨s.data.toList, by cases s; simp⟩
  rw [hsl, str_of] at hs
  obtain ⟨W1, hW1, hB1, hb1, qf⟩ := buf_start w s l hsl hs a
  obtain ⟨d0, d1, _, _⟩ := buf_cells hb1
  have QF := Lib.hid qf
  have HU := Lib.hid hU
  have HW1 := Lib.hid hW1
  have HB1 := Lib.hid hB1
  have H1 := Lib.hid hb1
  have al := fun (W : World) (h : U8 W) => al03_calls W h
  have AL := Lib.hid al
  have HSL := Lib.hid hsl
  clear qf hsl hU hW1 hB1 hb1 al
  go_enter Tryd.func6, Tryd.ntmps6
  go_wp2_with fail
  rw [HW1.out]
  refine QF.out.mono ?_
  rintro e w' ⟨rfl, rfl⟩
  by_cases hfw : l.length ≤ 1500
  rotate_left
  · rw [decide_eq_false hfw]
    clear hfw
    go_wp2_with fail
    refine (AL.out _ (HU.out.later HB1.out)).mono ?_
    rintro e w2 ⟨rfl, hb2⟩
    go_wp2
    go_ret
    exact ⟨rfl, HB1.out.trans (hb2.mono HB1.out.size)⟩
  · rw [decide_eq_true hfw]
    have q1 := Swap_calls l (by omega) s HSL.out a w' (HU.out.later HB1.out)
    have q2 := fun (W : World) (h : U8 W) => rSwap3_calls l (by omega) s HSL.out a W h
    have q3 := fun (W : World) (h : U8 W) => rMake_calls l (by omega) s HSL.out 0 W h
    obtain ⟨R, x, ok, h1, h3, h4⟩ := sw_both l a
    obtain ⟨br, hbr⟩ : ∃ s : ByteArray, s = ⟨R.toArray⟩ := ⟨_, rfl⟩
    obtain ⟨bm, hbm⟩ : ∃ s : ByteArray, s = ⟨(mkS l).toArray⟩ := ⟨_, rfl⟩
    obtain ⟨k0, hk0⟩ : ∃ k, k = back (mkS l) 0 := ⟨_, rfl⟩
    have hsz : br.size = bm.size := by rw [hbr, hbm, str_of, str_of, h4]
    have hml := mkS_len l
    have hbs : bm.size ≤ 600 := by rw [hbm, str_of]; exact hml
    rw [h1, show bufV R x = .agg #[.string br, .int .i64 (x : Int)] by rw [hbr]] at q1 q2
    rw [← hk0, show bufV (mkS l) k0 = .agg #[.string bm, .int .i64 (k0 : Int)] by rw [hbm]] at q3
    have qr := fun (W : World) (h : U8 W) => Right_calls R (by omega) br hbr x W h
    rw [h3] at qr
    have QR := Lib.hid qr
    have heq : ∀ W, (binOp .eql 27 (.agg #[.string br, .int .i64 (x : Int)]) (.agg #[.string br, .int .i64 (x : Int)])).run Tryd.prog W = .ok (.bool true) W := fun W => by rw [Tryd.eq_rbuf]; simp
    have hfld : ∀ (W : World), (Instr.field 27 (.agg #[.string bm, .int .i64 (k0 : Int)]) 0).run Tryd.prog W = .ok (.string bm) W := fun _ => by kernel_rfl
    have hln : decide ((br.size : Int) = (bm.size : Int)) = true := by simp; omega
    have hln2 : ((br.size : Int) == (bm.size : Int)) = true := by simp; omega
    have Q1 := Lib.hid q1
    have Q2 := Lib.hid q2
    have Q3 := Lib.hid q3
    clear hfw h1 h3 h4 hbr hbm hs qr q1 q2 q3 hk0 hml
    go_wp2_with fail
    refine (Q1.out).mono ?_
    rintro e w2 ⟨rfl, b2⟩
    have B2 := HB1.out.trans (b2.mono HB1.out.size)
    have h2 := (b2.block _ (lt_of_heap H1.out)).trans H1.out
    have l2 := lt_of_heap h2
    obtain ⟨y0, y1, _, _⟩ := buf_cells h2
    have H2 := Lib.hid h2
    clear b2 h2 d0 d1
    go_wp2_with fail
    obtain ⟨w3, e3, h3, b3⟩ := new_buf w2 (.string br) (.int .i64 x) 25
    rw [e3]
    have B3 := B2.trans (b3.mono B2.size)
    have h3' := (b3.block _ (lt_of_heap H2.out)).trans H2.out
    have H3 := Lib.hid h3
    have H3' := Lib.hid h3'
    clear h3 b3 e3 y0 y1 h3'
    refine (Q2.out w3 (HU.out.later B3)).mono ?_
    rintro e w4 ⟨rfl, b4⟩
    have B4 := B3.trans (b4.mono B3.size)
    have h4 := (b4.block _ (lt_of_heap H3.out)).trans H3.out
    have h4' := (b4.block _ (lt_of_heap H3'.out)).trans H3'.out
    have H4 := Lib.hid h4
    have H4' := Lib.hid h4'
    clear b4 h4 h4'
    go_wp2_with fail
    obtain ⟨w5, e5, h5, b5⟩ := new_buf w4 (.string br) (.int .i64 x) 27
    rw [e5]
    have B5 := B4.trans (b5.mono B4.size)
    have h5' := (b5.block _ (lt_of_heap H4.out)).trans H4.out
    have h5'' := (b5.block _ (lt_of_heap H4'.out)).trans H4'.out
    have H5 := Lib.hid h5
    have H5' := Lib.hid h5'
    have H5'' := Lib.hid h5''
    obtain ⟨c0, c1, _, _⟩ := buf_cells h5
    obtain ⟨c2, c3, _, _⟩ := buf_cells h5'
    obtain ⟨c4, c5, _, _⟩ := buf_cells h5''
    clear h5 b5 h5' e5 h5''
    go_region_held3 (fun w' => w'.cell? ⟨w4.heap.size, 0, none⟩ = some (.string br) ∧ w'.cell? ⟨w4.heap.size, 1, none⟩ = some (.int .i64 x) ∧ w'.cell? ⟨w2.heap.size, 0, none⟩ = some (.string br) ∧ w'.cell? ⟨w2.heap.size, 1, none⟩ = some (.int .i64 x) ∧ w'.cell? ⟨w.heap.size, 0, none⟩ = some (.string s)) (first | exact ⟨c0, c1, c2, c3, c4⟩ | exact ⟨x0, x1, x2, x3, x4⟩ | exact ⟨y0, y1, y2, y3, y4⟩ | exact ⟨z0, z1, z2, z3, z4⟩) (first
      | (go_at_call 11; (with_reducible refine (AL.out w5.drew (HU.out.later B5.drew)).mono ?_); rintro e w6 ⟨rfl, b6⟩; have D6 : Below w5.heap.size w5 w6 := ((Below.refl _ w5).drew).trans b6; obtain ⟨x0, x1, _, _⟩ := buf_cells ((D6.block _ (lt_of_heap H5.out)).trans H5.out); obtain ⟨x2, x3, _, _⟩ := buf_cells ((D6.block _ (lt_of_heap H5'.out)).trans H5'.out); obtain ⟨x4, x5, _, _⟩ := buf_cells ((D6.block _ (lt_of_heap H5''.out)).trans H5''.out))
      | (go_at_call 14; (with_reducible refine (QR.out w6 (HU.out.later (B5.trans (D6.mono B5.size)))).mono ?_); rintro e w7 ⟨rfl, b7⟩; have D7 : Below w5.heap.size w5 w7 := D6.trans (b7.mono D6.size); obtain ⟨y0, y1, _, _⟩ := buf_cells ((D7.block _ (lt_of_heap H5.out)).trans H5.out); obtain ⟨y2, y3, _, _⟩ := buf_cells ((D7.block _ (lt_of_heap H5'.out)).trans H5'.out); obtain ⟨y4, y5, _, _⟩ := buf_cells ((D7.block _ (lt_of_heap H5''.out)).trans H5''.out))
      | (go_at_call 13; (with_reducible refine (Q3.out w7 (HU.out.later (B5.trans (D7.mono B5.size)))).mono ?_); rintro e w8 ⟨rfl, b8⟩; have D8 : Below w5.heap.size w5 w8 := D7.trans (b8.mono D7.size); obtain ⟨z0, z1, _, _⟩ := buf_cells ((D8.block _ (lt_of_heap H5.out)).trans H5.out); obtain ⟨z2, z3, _, _⟩ := buf_cells ((D8.block _ (lt_of_heap H5'.out)).trans H5'.out); obtain ⟨z4, z5, _, _⟩ := buf_cells ((D8.block _ (lt_of_heap H5''.out)).trans H5''.out)))
    go_wp2
    go_ret
    exact ⟨rfl, B5.trans (D8.mono B5.size)⟩
end Go.Proofs.YtcifakmlfndlaaaDoor
