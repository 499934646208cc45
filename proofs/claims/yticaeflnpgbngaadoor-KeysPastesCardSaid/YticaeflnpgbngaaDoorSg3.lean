import Derived.Test.YticaeflnpgbngaaDoorKa
namespace Go.Proofs.YticaeflnpgbngaaDoor
open Go.RowKit
/-- sign.tails. -/
theorem tails_calls (x : Nat) (w : World) :
    Calls Tryd.prog 81 #[.int .u8 (x : Int)] w fun e w' => e = .returned (.tuple #[i64 (tl x).1, .int .u8 (tl x).2.1, .int .u8 (tl x).2.2]) ∧ w = w' := by
  go_enter Tryd.func81, Tryd.ntmps81
  go_wp2
  all_goals go_ret3
  all_goals (refine ⟨?_, rfl⟩; simp only [beq_iff_eq, beq_eq_false_iff_ne, ne_eq] at *; unfold tl)
  all_goals (repeat' split)
  all_goals first | rfl | (exfalso; omega)
set_option maxHeartbeats 400000 in
/-- sign.Whole. -/
theorem Whole_calls (A : Option Addr) (c : Nat) (l : Bs) (w : World) (hr : RdB w A l) (hl : l.length ≤ 4294967296) :
    Calls Tryd.prog 65 #[.slice A l.length c] w fun e w' => e = .returned (.bool (whole l)) ∧ w = w' := by
  by_cases h0 : l = []
  · subst h0
    go_enter Tryd.func65, Tryd.ntmps65
    go_wp2
    go_ret
    exact ⟨rfl, rfl⟩
  · have hlen : 0 < l.length := List.length_pos_iff.2 h0
    obtain ⟨b, off, rfl, hc⟩ := hr.cell h0
    have hc0 := hc 0 hlen
    have HC := Lib.hid hc
    clear hc hr
    simp only [Nat.add_zero] at hc0
    obtain ⟨n, lo, hi, ht⟩ : ∃ n lo hi, tl (at' l 0) = (n, lo, hi) := ⟨_, _, _, rfl⟩
    have hw : whole l = wk l n n 1 lo hi := by unfold whole; rw [if_neg h0, ht]
    have hn := tl_le (at' l 0)
    rw [ht] at hn
    obtain ⟨hn1, hn2, hn3⟩ := hn
    dsimp only at hn1 hn2 hn3
    have HT := Lib.hid ht
    have HW := Lib.hid hw
    clear ht hw
    have hne : ((l.length : Int) == 0) = false := by simp; omega
    go_enter Tryd.func65, Tryd.ntmps65
    go_wp2_with (first | (go_at_call 81; refine (tails_calls _ _).mono ?_; rintro e w' ⟨rfl, rfl⟩; rw [HT.out]))
    go_loop [4, 5, 6] (fun v4 v5 v6 => ∃ (f k lo hi : Nat), v4 = .int .u8 lo ∧ v5 = .int .u8 hi ∧ v6 = .int .i64 k ∧ 1 ≤ k ∧ k + f = n + 1 ∧ wk l n f k lo hi = whole l) (fun _ _ v6 => n + 1 - (intOf v6).toNat)
    case atStart => exact ⟨n, 1, lo, hi, rfl, rfl, rfl, Nat.le_refl _, by omega, HW.out.symm⟩
    case round =>
      obtain ⟨f, k, lo, hi, rfl, rfl, rfl, hk1, hkf, hwk⟩ := hrel
      have HK := Lib.hid hkf
      have HW := Lib.hid hwk
      clear hwk hkf
      by_cases h1 : k ≤ n
      · obtain ⟨f, rfl⟩ : ∃ f', f = f' + 1 := ⟨f - 1, by have := HK.out; omega⟩
        by_cases h2 : l.length ≤ k
        · go_wp2
          go_ret
          have := HW.out
          rw [wk, if_pos h1, if_pos h2] at this
          rw [this]; exact ⟨rfl, rfl⟩
        · have h2' : k < l.length := by omega
          have hc1 := HC.out k h2'
          by_cases h3 : at' l k < lo
          · go_wp2
            go_ret
            have := HW.out
            rw [wk, if_pos h1, if_neg h2, if_pos (.inl h3)] at this
            rw [this]; exact ⟨rfl, rfl⟩
          · by_cases h4 : hi < at' l k
            · go_wp2
              go_ret
              have := HW.out
              rw [wk, if_pos h1, if_neg h2, if_pos (.inr h4)] at this
              rw [this]; exact ⟨rfl, rfl⟩
            · go_wp2
              go_round
              case rel =>
                refine ⟨f, k + 1, 128, 191, rfl, rfl, by go_num, by omega, by have := HK.out; omega, ?_⟩
                have := HW.out
                rw [wk, if_pos h1, if_neg h2, if_neg (by omega)] at this
                exact this
              case measure => simp [intOf]; omega
      · go_wp2
        go_ret
        have hf : f = 0 := by have := HK.out; omega
        have := HW.out
        rw [hf, wk] at this
        rw [← this]; exact ⟨rfl, rfl⟩
end Go.Proofs.YticaeflnpgbngaaDoor
