import Derived.Test.YtcifakmlfndlaaaDoorTt29
import Derived.Test.YtcifakmlfndlaaaDoorTt27
namespace Go.Proofs.YtcifakmlfndlaaaDoor
set_option linter.unusedVariables false
set_option linter.unusedSimpArgs false
open Go.RowKit Go.Shelf
set_option maxRecDepth 100000 in
set_option maxHeartbeats 6400000 in
theorem TextMakes_walk (w : World) (hU : U8 w) (s : ByteArray) (a : Int) (hs : s.size ≤ 140737488351232) :
    Calls Tryd.prog 3 #[.string s, .int .i64 a] w fun e w' => e = .returned (.bool true) ∧ Below w.heap.size w w' := by
  obtain ⟨l, hsl⟩ : ∃ l : Bs, s = ⟨l.toArray⟩ := ⟨s.data.toList, by cases s; simp⟩
  rw [hsl, str_of] at hs
  obtain ⟨W1, hW1, hB1, qf⟩ := str_start w s l hsl hs
  have QF := Lib.hid qf
  have HU := Lib.hid hU
  have HW1 := Lib.hid hW1
  have HB1 := Lib.hid hB1
  have al := fun (W : World) (h : U8 W) => al03_calls W h
  have AL := Lib.hid al
  have HSL := Lib.hid hsl
  clear qf hsl hU hW1 hB1 al
  go_enter Tryd.func3, Tryd.ntmps3
  go_wp2_with fail
  rw [HW1.out]
  refine QF.out.mono ?_
  rintro e w' ⟨rfl, rfl⟩
  by_cases hfw : l.length ≤ 1500
  rotate_left
  · rw [decide_eq_false hfw]
    clear hfw
    go_wp2_with fail
    refine (AL.out _ (HU.out.later HB1.out)).mono ?_
    rintro e w2 ⟨rfl, hb2⟩
    go_wp2
    go_ret
    exact ⟨rfl, HB1.out.trans (hb2.mono HB1.out.size)⟩
  · rw [decide_eq_true hfw]
    have q1 := Make_calls l (by omega) s HSL.out a w' (HU.out.later HB1.out)
    have q2 := fun (W : World) (h : U8 W) => rMake_calls l (by omega) s HSL.out a W h
    obtain ⟨x, hx⟩ : ∃ x, x = back (mkS l) a := ⟨_, rfl⟩
    obtain ⟨bq, hbq⟩ : ∃ s : ByteArray, s = ⟨(mkS l).toArray⟩ := ⟨_, rfl⟩
    rw [← hx, show bufV (mkS l) x = .agg #[.string bq, .int .i64 (x : Int)] by rw [hbq]] at q1 q2
    have hml := mkS_len l
    have q3 := fun (W : World) (h : U8 W) => Right_calls (mkS l) (by omega) bq hbq (x : Int) W h
    rw [hx, right_back (mkS_pl l) hml a, ← hx] at q3
    obtain ⟨bp, hbp⟩ : ∃ s : ByteArray, s = ⟨(pl l).toArray⟩ := ⟨_, rfl⟩
    have q4 := fun (W : World) (h : U8 W) => Plain_calls l (by omega) s HSL.out W h
    have q5 := fun (W : World) (h : U8 W) => rPlU l (by omega) s HSL.out W h
    rw [← hbp] at q4 q5
    have q6 := fun (W : World) (h : U8 W) => Right_calls l (by omega) s HSL.out a W h
    have q7 := fun (W : World) (h : U8 W) => rRight3_calls l (by omega) s HSL.out a W h
    obtain ⟨b, hb⟩ : ∃ b, b = rightB l a := ⟨_, rfl⟩
    rw [← hb] at q6 q7
    have heq : ∀ W, (binOp .eql 27 (.agg #[.string bq, .int .i64 (x : Int)]) (.agg #[.string bq, .int .i64 (x : Int)])).run Tryd.prog W = .ok (.bool true) W := fun W => by rw [Tryd.eq_rbuf]; simp
    have Q1 := Lib.hid q1
    have Q2 := Lib.hid q2
    have Q3 := Lib.hid q3
    have Q4 := Lib.hid q4
    have Q5 := Lib.hid q5
    have Q6 := Lib.hid q6
    have Q7 := Lib.hid q7
    clear hfw hs hx hml hbq hbp hb q1 q2 q3 q4 q5 q6 q7
    go_wp2_with fail
    refine (Q1.out).mono ?_
    rintro e w2 ⟨rfl, b2⟩
    have B2 := HB1.out.trans (b2.mono HB1.out.size)
    clear b2
    go_wp2_with fail
    obtain ⟨w3, e3, h3, b3⟩ := new_buf w2 (.string bq) (.int .i64 x) 25
    rw [e3]
    have B3 := B2.trans (b3.mono B2.size)
    have l3 := lt_of_heap h3
    obtain ⟨c0, c1, _, _⟩ := buf_cells h3
    have H3 := Lib.hid h3
    clear h3 b3 e3
    go_region_held3 (fun w' => w'.cell? ⟨w2.heap.size, 0, none⟩ = some (.string bq) ∧ w'.cell? ⟨w2.heap.size, 1, none⟩ = some (.int .i64 x)) (first | exact ⟨c0, c1⟩ | exact ⟨x0, x1⟩ | exact ⟨y0, y1⟩ | exact ⟨z0, z1⟩ | exact ⟨u0, u1⟩ | exact ⟨v0, v1⟩ | exact ⟨r0, r1⟩ | exact ⟨t0, t1⟩) (first
      | (go_at_call 11; (with_reducible refine (AL.out w3.drew (HU.out.later B3.drew)).mono ?_); rintro e w4 ⟨rfl, b4⟩; have D4 : Below w3.heap.size w3 w4 := ((Below.refl _ w3).drew).trans b4; obtain ⟨x0, x1, _, _⟩ := buf_cells ((D4.block _ l3).trans H3.out))
      | (go_at_call 13; (with_reducible refine (Q2.out w4 (HU.out.later (B3.trans (D4.mono B3.size)))).mono ?_); rintro e w5 ⟨rfl, b5⟩; have D5 : Below w3.heap.size w3 w5 := D4.trans (b5.mono D4.size); obtain ⟨y0, y1, _, _⟩ := buf_cells ((D5.block _ l3).trans H3.out))
      | (go_at_call 14; (with_reducible refine (Q3.out w5 (HU.out.later (B3.trans (D5.mono B3.size)))).mono ?_); rintro e w6 ⟨rfl, b6⟩; have D6 : Below w3.heap.size w3 w6 := D5.trans (b6.mono D5.size); obtain ⟨z0, z1, _, _⟩ := buf_cells ((D6.block _ l3).trans H3.out))
      | (go_at_call 15; (with_reducible refine (Q4.out w6 (HU.out.later (B3.trans (D6.mono B3.size)))).mono ?_); rintro e w7 ⟨rfl, b7⟩; have D7 : Below w3.heap.size w3 w7 := D6.trans (b7.mono D6.size); obtain ⟨u0, u1, _, _⟩ := buf_cells ((D7.block _ l3).trans H3.out))
      | (go_at_call 16; (with_reducible refine (Q5.out w7 (HU.out.later (B3.trans (D7.mono B3.size)))).mono ?_); rintro e w8 ⟨rfl, b8⟩; have D8 : Below w3.heap.size w3 w8 := D7.trans (b8.mono D7.size); obtain ⟨v0, v1, _, _⟩ := buf_cells ((D8.block _ l3).trans H3.out))
      | (go_at_call 14; (with_reducible refine (Q6.out w8 (HU.out.later (B3.trans (D8.mono B3.size)))).mono ?_); rintro e w9 ⟨rfl, b9⟩; have D9 : Below w3.heap.size w3 w9 := D8.trans (b9.mono D8.size); obtain ⟨r0, r1, _, _⟩ := buf_cells ((D9.block _ l3).trans H3.out))
      | (go_at_call 17; (with_reducible refine (Q7.out w9 (HU.out.later (B3.trans (D9.mono B3.size)))).mono ?_); rintro e w10 ⟨rfl, b10⟩; have D10 : Below w3.heap.size w3 w10 := D9.trans (b10.mono D9.size); obtain ⟨t0, t1, _, _⟩ := buf_cells ((D10.block _ l3).trans H3.out)))
    go_wp2
    go_ret
    exact ⟨by simp, B3.trans (D10.mono B3.size)⟩
end Go.Proofs.YtcifakmlfndlaaaDoor
