import Derived.Test.YtfegchonclhjjaaWo3
namespace Go.Proofs.Ytfegchonclhjjaa
open Go.RowKit
def bt (r a b : Int) : Bool := decide (a ≤ r) && decide (r ≤ b)
theorem bt_calls (r a b : Int) (w : World) : Calls Try.prog 32 #[.int .i64 r, .int .i64 a, .int .i64 b] w fun e w' => e = .returned (.bool (bt r a b)) ∧ Below w.heap.size w w' := between_calls r a b w
theorem wof_bt (r : Int) : wof r = if (bt r 0x300 0x36f || (bt r 0x1ab0 0x1aff || (bt r 0x1dc0 0x1dff || (bt r 0x200b 0x200d || (bt r 0x20d0 0x20ff || (bt r 0xfe00 0xfe0f || (bt r 0xfe20 0xfe2f || false))))))) = true then 0 else
    if (bt r 0x1100 0x115f || (bt r 0x2e80 0x303e || (bt r 0x3041 0xa4cf || (bt r 0xac00 0xd7a3 || (bt r 0xf900 0xfaff || (bt r 0xfe30 0xfe6f || (bt r 0xff01 0xff60 || (bt r 0xffe0 0xffe6 || (bt r 0x1f300 0x1faff || (bt r 0x20000 0x3fffd || false)))))))))) = true then 2 else 1 := rfl
set_option maxRecDepth 100000 in
set_option maxHeartbeats 1000000 in
theorem rOf_calls (r : Int) (w : World) :
    Calls Try.prog 12 #[.int .i64 r] w fun e w' => e = .returned (.int .i64 (wof r)) ∧ Below w.heap.size w w' := by
  have B := Below.refl w.heap.size w
  have HW := Lib.hid (wof_bt r)
  go_enter Try.func12, Try.ntmps12
  go_wp2_with (first
    | (go_at_call 32; refine (bt_calls _ _ _ _).mono ?_; rintro e w1 ⟨rfl, hb⟩; replace B := B.trans (hb.mono B.size); clear hb))
  all_goals go_ret
  all_goals
    refine ⟨?_, B⟩
    refine congrArg (fun z => Ending.returned (.int .i64 z)) ?_
    rw [HW.out]
    clear HW
    simp only [Bool.or_eq_true] at *
    simp_all
end Go.Proofs.Ytfegchonclhjjaa
