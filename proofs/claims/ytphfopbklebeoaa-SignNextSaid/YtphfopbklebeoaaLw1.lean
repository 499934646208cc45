import Derived.Test.YtphfopbklebeoaaSa1
import Derived.Test.YtphfopbklebeoaaIn
namespace Go.Proofs.Ytphfopbklebeoaa
open Go.RowKit
/-! The walks of the laws of layer 1. -/
theorem alive_hid (w : World) : Calls Try.prog 10 #[] w fun e w' => e = .returned (.bool true) ∧ Below w.heap.size w w' := alive_calls w
set_option maxHeartbeats 800000 in
set_option maxRecDepth 100000 in
theorem SignNext_walk (A : Option Addr) (c : Nat) (l : Bs) (w : World) (hr : RdB w A l) (hlc : l.length ≤ c) (hm : c ≤ maxLen) :
    Calls Try.prog 3 #[.slice A l.length c] w fun e w' => e = .returned (.bool true) ∧ Below w.heap.size w w' := by
  by_cases hbig : 2000 < l.length
  · go_enter Try.func3, Try.ntmps3
    go_wp2_with fail
    refine (alive_calls _).mono ?_
    rintro e w1 ⟨rfl, hb⟩
    go_wp2
    go_ret
    exact ⟨rfl, hb⟩
  have hl : l.length ≤ 4294967296 := by omega
  have hlt := decode_le ⟨l.toArray⟩ 0
  rw [decode_dec] at hlt
  have hn1 : (nxt l).1 ≤ 2147483647 := by
    unfold nxt; split
    · exact Nat.zero_le _
    · simpa using hlt
  clear hlt
  go_enter Try.func3, Try.ntmps3
  go_wp2_with fail
  refine (Next_calls A c l w hr hlc hm).mono ?_
  rintro e w1 ⟨rfl, hb1⟩
  go_wp2_with fail
  refine (rNext_calls A c l w1 (hr.later hb1) hl).mono ?_
  rintro e w2 ⟨rfl, hb2⟩
  have hB2 := hb1.trans (hb2.mono hb1.size)
  go_wp2_with fail
  refine (alive_calls w2).mono ?_
  rintro e w3 ⟨rfl, hb3⟩
  have hB3 := hB2.trans (hb3.mono hB2.size)
  have hwr : IntKind.i64.wrap ((nxt l).1 : Int) = ((nxt l).1 : Int) := IntWalk.i64_in _ (by omega)
  go_wp2_with fail
  refine (Whole_calls A c l w3 (hr.later hB3) hl).mono ?_
  rintro e w3' ⟨rfl, rfl⟩
  go_wp2_with fail
  refine (rWhole_calls A c l w3 (hr.later hB3) hlc hl).mono ?_
  rintro e w4 ⟨rfl, hb4⟩
  go_wp2
  go_ret
  exact ⟨by simp, hB3.trans (hb4.mono hB3.size)⟩
end Go.Proofs.Ytphfopbklebeoaa
