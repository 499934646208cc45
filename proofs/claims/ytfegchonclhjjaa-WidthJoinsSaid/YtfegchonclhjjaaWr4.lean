import Derived.Test.YtfegchonclhjjaaWr3
namespace Go.Proofs.Ytfegchonclhjjaa
open Go.RowKit
theorem row_str (w : World) (A : Option Addr) (l : Bs) (c : Nat) (h : RdB w A l) : (convert 38 9 (.slice A l.length c)).run Try.prog w = .ok (.string ⟨l.toArray⟩) w :=
  run_str (P := Try.prog) w _ 5 _ Try.underlying38 Try.underlying5 Try.underlying9 A l _ c rfl h
theorem rb_wrong : rb 65533 = wrongB := by decide
/-- ref.Show. -/
theorem rShow_calls (c : Bs) (hc : c.length ≤ 4294967296) (s : ByteArray) (hs : s = ⟨c.toArray⟩) (w : World) :
    Calls Try.prog 23 #[.string s] w fun e w' => e = .returned (.string ⟨(shown c).toArray⟩) ∧ Below w.heap.size w w' := by
  by_cases h0 : c = []
  · subst h0
    subst hs
    go_enter Try.func23, Try.ntmps23
    go_wp2
    go_ret
    exact ⟨rfl, Below.refl _ _⟩
  · have hnx := nxt_ne h0
    have hse : s.toList.isEmpty = false := str_ne hs h0
    have hcv : ∀ w, ∃ cap W, (convert 9 38 (.string s)).run Try.prog w = .ok (.slice (some ⟨w.heap.size, 0, none⟩) c.length cap) W ∧ c.length ≤ cap ∧ RdB W (some ⟨w.heap.size, 0, none⟩) c ∧ Below w.heap.size w W := fun w => by
      obtain ⟨cap, W, a, b, _, d, e⟩ := conv_bytes (P := Try.prog) w _ _ _ c Try.underlying9 Try.underlying38 Try.underlying5 (by simp only [maxLen]; omega)
      exact ⟨cap, W, by rw [hs]; exact a, b, d, e⟩
    have HCV := Lib.hid hcv
    clear hs hcv
    obtain ⟨r, hr⟩ : ∃ r : Int, r = ((dec c).1 : Int) := ⟨_, rfl⟩
    have HR := Lib.hid hr
    have hsh : shown c = if (wof r == 0 || ctl r) = true then wrongB else clean c := by unfold shown bad; rw [if_neg h0, hr]
    have HSH := Lib.hid hsh
    clear hsh hr
    obtain ⟨cap, W, hcv1, h1, h3, h4⟩ := HCV.out w
    go_enter Try.func23, Try.ntmps23
    go_wp2_with fail
    refine (rNext_calls _ cap c W h3 hc).mono ?_
    rintro e w1 ⟨rfl, hb1⟩
    rw [hnx, show i64 ((dec c).1 : Int) = .int .i64 r from by rw [HR.out]]
    have B1 := h4.trans (hb1.mono h4.size)
    clear hcv1
    go_wp2_with fail
    refine (rOf_calls r w1).mono ?_
    rintro e w2 ⟨rfl, hb2⟩
    have B2 := B1.trans (hb2.mono B1.size)
    by_cases hz : wof r = 0
    · rw [hz]
      go_wp2_with (go_at_call 35; refine (Bytes_calls 65533 w2).mono ?_; rintro e w4 ⟨v4, rfl, hrow4, hb4⟩; rw [rb_wrong] at hrow4; obtain ⟨A4, c4, rfl, _, _, hrd4, _⟩ := hrow4.rd; have hcs := row_str w4 A4 wrongB c4 hrd4)
      go_ret
      refine ⟨?_, B2.trans (hb4.mono B2.size)⟩
      rw [HSH.out, if_pos (by rw [hz]; rfl)]
      rfl
    · have hz' : (wof r == 0) = false := by simpa using hz
      have HZ := Lib.hid hz'
      obtain ⟨z, hzz⟩ : ∃ z, z = wof r := ⟨_, rfl⟩
      rw [← hzz] at hz' ⊢
      clear hz
      have HZZ := Lib.hid hzz
      clear hzz
      by_cases hcl : ctl r = true
      · go_wp2_with (first
          | (go_at_call 14; refine (rControl_calls r w2).mono ?_; rintro e w3 ⟨rfl, hb3⟩; rw [hcl]; have B3 := B2.trans (hb3.mono B2.size))
          | (go_at_call 35; refine (Bytes_calls 65533 w3).mono ?_; rintro e w4 ⟨v4, rfl, hrow4, hb4⟩; rw [rb_wrong] at hrow4; obtain ⟨A4, c4, rfl, _, _, hrd4, _⟩ := hrow4.rd; have hcs := row_str w4 A4 wrongB c4 hrd4))
        go_ret
        refine ⟨?_, B3.trans (hb4.mono B3.size)⟩
        rw [HSH.out, if_pos (by rw [hcl, Bool.or_true])]
        rfl
      · have hcl' := Bool.eq_false_iff.2 hcl
        clear hcl
        go_wp2_with (first
          | (go_at_call 14; refine (rControl_calls r w2).mono ?_; rintro e w3 ⟨rfl, hb3⟩; rw [hcl']; have B3 := B2.trans (hb3.mono B2.size); obtain ⟨cap4, W4, hcv4, hlc4, hrd4, hb4⟩ := HCV.out w3)
          | (go_at_call 27; refine (rClean_calls _ cap4 c W4 hrd4 hlc4 hc).mono ?_; rintro e w5 ⟨v5, rfl, hrow5, hb5⟩; obtain ⟨A5, c5, rfl, _, _, hrd5, _⟩ := hrow5.rd; have hcs := row_str w5 A5 (clean c) c5 hrd5))
        go_ret
        refine ⟨?_, (B3.trans (hb4.mono B3.size)).trans (hb5.mono (Nat.le_trans B3.size hb4.size))⟩
        rw [HSH.out, if_neg (by rw [HZ.out, hcl']; simp)]
        rfl
end Go.Proofs.Ytfegchonclhjjaa
