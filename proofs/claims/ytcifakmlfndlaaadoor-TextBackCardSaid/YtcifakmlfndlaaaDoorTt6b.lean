import Derived.Test.YtcifakmlfndlaaaDoorTt5
namespace Go.Proofs.YtcifakmlfndlaaaDoor
set_option linter.unusedVariables false
set_option linter.unusedSimpArgs false
open Go.RowKit Go.Shelf
set_option maxHeartbeats 1600000 in
theorem Right_calls (l : Bs) (hl : l.length ≤ 1000000000) (s : ByteArray) (hs : s = ⟨l.toArray⟩) (a : Int) (w : World) (hU : U8 w) :
    Calls Tryd.prog 14 #[.agg #[.string s, .int .i64 a]] w fun e w' => e = .returned (.bool (rightB l a)) ∧ Below w.heap.size w w' := by
  obtain ⟨W0, hW0⟩ : ∃ W0, W0 = w.alloc (.cells #[.string s, .int .i64 a] 25) := ⟨_, rfl⟩
  have hB0 : Below w.heap.size w W0 := by rw [hW0]; exact (Below.refl _ w).alloc (Nat.le_refl _) _
  have hb0 : W0.heap[w.heap.size]? = some (.cells #[.string s, .int .i64 a] 25 (0, 0)) := by rw [hW0]; exact heap_alloc_new w _
  obtain ⟨c0, c1, _, _⟩ := buf_cells hb0
  obtain ⟨bp, hbp⟩ : ∃ b : ByteArray, b = ⟨(pl l).toArray⟩ := ⟨_, rfl⟩
  have q1 := Plain_calls l hl s hs W0.drew (hU.later hB0.drew)
  rw [← hbp] at q1
  have q2 := fun (W : World) => Bounds_calls l (by omega) s hs W
  have hbe := str_beq hbp hs
  have hsz : s.size = l.length := by rw [hs, str_of]
  have hbl := bnds_len 0 (cuts l)
  have hcl := cuts_len l
  have hz0 : W0.heap.size = w.heap.size + 1 := by rw [hW0]; simp
  have hr : rightB l a = (decide (pl l = l) && (decide (l.length ≤ 600) && ((bnds 0 (cuts l)).map (fun (x : Nat) => (x : Int))).contains a)) := rfl
  have HR := Lib.hid hr
  obtain ⟨bs, hbs⟩ : ∃ bs, bs = bnds 0 (cuts l) := ⟨_, rfl⟩
  rw [← hbs] at q2 hbl HR
  have HB := Lib.hid hb0
  have HW := Lib.hid hW0
  have HB0 := Lib.hid hB0
  have Q1 := Lib.hid q1
  have Q2 := Lib.hid q2
  have HSZ := Lib.hid hsz
  have hbl2 : bs.length ≤ 2000000000 := by omega
  clear hs hU hbp hbs q1 q2 hb0 hW0 hB0 hr hbl hsz
  go_enter Tryd.func14, Tryd.ntmps14
  go_wp2_with fail
  rw [← HW.out]
  by_cases hp : pl l = l
  · rw [decide_eq_true hp] at hbe HR
    by_cases h6 : s.size ≤ 600
    · have hd : decide ((s.size : Int) ≤ 600) = true := by simp; omega
      have hd2 : decide (l.length ≤ 600) = true := by have := HSZ.out; simp; omega
      rw [hd2] at HR
      clear hp hd2
      go_region_held3 (fun w' => w'.cell? ⟨w.heap.size, 0, none⟩ = some (.string s) ∧ w'.cell? ⟨w.heap.size, 1, none⟩ = some (.int .i64 a)) (first | exact ⟨d0, d1⟩ | exact ⟨c0, c1⟩ | exact ⟨e0, e1⟩) (first
        | (go_at_call 15; refine Q1.out.mono ?_; rintro e w1 ⟨rfl, hb1⟩; have D1 : Below W0.heap.size W0 w1 := ((Below.refl _ W0).drew).trans hb1; obtain ⟨e0, e1, _, _⟩ := buf_cells ((D1.block _ (by omega)).trans HB.out))
        | (go_at_call 33; refine (Q2.out w1).mono ?_; rintro e w2 ⟨v2, rfl, hr2, hb2⟩; have D2 : Below W0.heap.size W0 w2 := D1.trans (hb2.mono D1.size); obtain ⟨A2, k2, rfl, _, _, hrd2, _⟩ := hr2.rd; obtain ⟨d0, d1, _, _⟩ := buf_cells ((D2.block _ (by omega)).trans HB.out))
        | (go_at_call 32; refine (Contains_calls w2 A2 k2 bs hrd2 (by omega) a).mono ?_; rintro e w3 ⟨rfl, rfl⟩))
      go_wp2
      go_ret
      exact ⟨by rw [HR.out]; simp, HB0.out.trans (D2.mono (by omega))⟩
    · have hd : decide ((s.size : Int) ≤ 600) = false := by simp; omega
      have hd2 : decide (l.length ≤ 600) = false := by have := HSZ.out; simp; omega
      rw [hd2] at HR
      clear hp hd2
      first | (go_region_with (go_at_call 15; refine Q1.out.mono ?_; rintro e w1 ⟨rfl, hb1⟩; have D1 : Below W0.heap.size W0 w1 := ((Below.refl _ W0).drew).trans hb1; obtain ⟨e0, e1, _, _⟩ := buf_cells ((D1.block _ (by omega)).trans HB.out))) | fail
      all_goals
        go_wp2
        go_ret
        exact ⟨by rw [HR.out]; rfl, HB0.out.trans (D1.mono (by omega))⟩
  · rw [decide_eq_false hp] at hbe HR
    clear hp
    first | (go_region_with (go_at_call 15; refine Q1.out.mono ?_; rintro e w1 ⟨rfl, hb1⟩; have D1 : Below W0.heap.size W0 w1 := ((Below.refl _ W0).drew).trans hb1; obtain ⟨e0, e1, _, _⟩ := buf_cells ((D1.block _ (by omega)).trans HB.out))) | fail
    all_goals
      go_wp2
      go_ret
      exact ⟨by rw [HR.out]; rfl, HB0.out.trans (D1.mono (by omega))⟩
end Go.Proofs.YtcifakmlfndlaaaDoor
