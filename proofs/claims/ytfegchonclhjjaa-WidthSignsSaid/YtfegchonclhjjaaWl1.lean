import Derived.Test.YtfegchonclhjjaaWa
import Derived.Test.YtfegchonclhjjaaWo4
import Derived.Test.YtfegchonclhjjaaIn
namespace Go.Proofs.Ytfegchonclhjjaa
open Go.RowKit
theorem WidthSigns_walk (r : Int) (w : World) (h1 : -2147483648 ≤ r) (h2 : r ≤ 2147483647) :
    Calls Try.prog 3 #[.int .i32 r] w fun e w' => e = .returned (.bool true) ∧ Below w.heap.size w w' := by
  have hw : IntKind.i64.wrap r = r := IntWalk.i64_in _ (by omega)
  have hq : (wof r == wof r) = true := by simp
  obtain ⟨z, hz⟩ : ∃ z, z = wof r := ⟨_, rfl⟩
  obtain ⟨b, hb⟩ : ∃ b, b = ctl r := ⟨_, rfl⟩
  have HZ := Lib.hid hz
  have HB := Lib.hid hb
  clear hz hb hq
  cases b
  all_goals
    go_enter Try.func3, Try.ntmps3
    go_wp2_with (first
      | (go_at_call 10; refine (alive_calls w).mono ?_; rintro e w1 ⟨rfl, hb1⟩)
      | (go_at_call 11; refine (Of_calls r w1).mono ?_; rintro e w2 ⟨rfl, hb2⟩; rw [← HZ.out]; have B2 := hb1.trans (hb2.mono hb1.size))
      | (go_at_call 12; refine (rOf_calls r w2).mono ?_; rintro e w3 ⟨rfl, hb3⟩; rw [← HZ.out]; have B3 := B2.trans (hb3.mono B2.size))
      | (go_at_call 13; refine (Control_calls r w3).mono ?_; rintro e w4 ⟨rfl, hb4⟩; rw [← HB.out]; have B4 := B3.trans (hb4.mono B3.size))
      | (go_at_call 14; refine (rControl_calls r w4).mono ?_; rintro e w5 ⟨rfl, hb5⟩; rw [← HB.out]; have B5 := B4.trans (hb5.mono B4.size)))
    go_ret
    exact ⟨rfl, B5⟩
end Go.Proofs.Ytfegchonclhjjaa
