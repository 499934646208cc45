import Derived.Test.YtphfopbklebeoaaSa1
import Derived.Test.YtphfopbklebeoaaIn
import Derived.Test.YtphfopbklebeoaaCv
namespace Go.Proofs.Ytphfopbklebeoaa
open Go.RowKit
/-- 'string(b)' of a row of bytes. -/
theorem row_str (w : World) (A : Option Addr) (l : Bs) (c : Nat) (h : RdB w A l) : (convert 22 9 (.slice A l.length c)).run Try.prog w = .ok (.string ⟨l.toArray⟩) w :=
  run_str (P := Try.prog) w _ 5 _ Try.underlying22 Try.underlying5 Try.underlying9 A l _ c rfl h
theorem str_bytes (w : World) (l : Bs) (hl : l.length ≤ 4294967296) :
    ∃ cap W, (convert 9 22 (.string ⟨l.toArray⟩)).run Try.prog w = .ok (.slice (some ⟨w.heap.size, 0, none⟩) l.length cap) W ∧ l.length ≤ cap ∧ cap ≤ maxLen ∧ RdB W (some ⟨w.heap.size, 0, none⟩) l ∧ Below w.heap.size w W :=
  conv_bytes w _ _ 5 l Try.underlying9 Try.underlying22 Try.underlying5 (by simp only [maxLen]; omega)
set_option maxHeartbeats 1600000 in
set_option maxRecDepth 100000 in
theorem SignRunes_walk (A : Option Addr) (c : Nat) (l : Bs) (w : World) (hr : RdB w A l) (hlc : l.length ≤ c) :
    Calls Try.prog 4 #[.slice A l.length c] w fun e w' => e = .returned (.bool true) ∧ Below w.heap.size w w' := by
  by_cases hbig : 2000 < l.length
  · go_enter Try.func4, Try.ntmps4
    go_wp2_with fail
    refine (alive_calls _).mono ?_
    rintro e w1 ⟨rfl, hb⟩
    go_wp2
    go_ret
    exact ⟨rfl, hb⟩
  have hl : l.length ≤ 4294967296 := by omega
  have hcl := clean_len l
  have hcl2 : (clean l).length ≤ 4294967296 := by omega
  have hrl := runes_length l
  have HR := Lib.hid hr
  clear hr
  go_enter Try.func4, Try.ntmps4
  go_wp2_with fail
  refine (Runes_calls A c l w HR.out hl).mono ?_
  rintro e w1 ⟨v1, rfl, hrow1, hb1⟩
  obtain ⟨A1, c1, rfl, _, _, hrd1, _⟩ := hrow1.rd
  have HRD1 := Lib.hid hrd1
  clear hrow1 hrd1
  go_wp2_with fail
  refine (Clean_calls A c l w1 (HR.out.later hb1) hl).mono ?_
  rintro e w2 ⟨rfl, hb2⟩
  have B2 := hb1.trans (hb2.mono hb1.size)
  go_wp2_with fail
  refine (alive_calls w2).mono ?_
  rintro e w3 ⟨rfl, hb3⟩
  have B3 := B2.trans (hb3.mono B2.size)
  have C3 := hb2.trans (hb3.mono hb2.size)
  go_wp2_with fail
  refine (rRunes_calls A c l w3 (HR.out.later B3) hlc hl).mono ?_
  rintro e w4 ⟨v4, rfl, hrow4, hb4⟩
  obtain ⟨A4, c4, rfl, _, _, hrd4, _⟩ := hrow4.rd
  have B4 := B3.trans (hb4.mono B3.size)
  have C4 := C3.trans (hb4.mono C3.size)
  go_wp2_with fail
  refine (same_calls A1 A4 c1 c4 (runes l) (runes l) w4 (HRD1.out.later C4) hrd4 (by omega) (by omega) (runes_le l)).mono ?_
  rintro e w5 ⟨rfl, hb5⟩
  rw [decide_eq_true rfl]
  have B5 := B4.trans (hb5.mono B4.size)
  clear hrow4 hrd4
  go_wp2_with fail
  refine (rClean_calls A c l w5 (HR.out.later B5) hlc hl).mono ?_
  rintro e w6 ⟨v6, rfl, hrow6, hb6⟩
  obtain ⟨A6, c6, rfl, _, _, hrd6, _⟩ := hrow6.rd
  have B6 := B5.trans (hb6.mono B5.size)
  have hcv6 := row_str w6 A6 (clean l) c6 hrd6
  clear hrow6 hrd6
  obtain ⟨cap7, W7, hcv7, hc7, hm7, hrd7, hb7⟩ := str_bytes w6 (clean l) hcl2
  have B7 := B6.trans (hb7.mono B6.size)
  go_wp2_with fail
  clear hcv6 hcv7
  refine (Clean_calls _ cap7 (clean l) W7 hrd7 hcl2).mono ?_
  rintro e w8 ⟨rfl, hb8⟩
  rw [clean_clean]
  have B8 := B7.trans (hb8.mono B7.size)
  obtain ⟨cap9, W9, hcv9, hc9, hm9, hrd9, hb9⟩ := str_bytes w8 (clean l) hcl2
  have B9 := B8.trans (hb9.mono B8.size)
  go_wp2_with fail
  clear hcv9
  refine (Runes_calls _ cap9 (clean l) W9 hrd9 hcl2).mono ?_
  rintro e w10 ⟨v10, rfl, hrow10, hb10⟩
  rw [runes_clean'] at hrow10
  obtain ⟨A10, c10, rfl, _, _, hrd10, _⟩ := hrow10.rd
  have B10 := B9.trans (hb10.mono B9.size)
  go_wp2_with fail
  refine (rRunes_calls A c l w10 (HR.out.later B10) hlc hl).mono ?_
  rintro e w11 ⟨v11, rfl, hrow11, hb11⟩
  obtain ⟨A11, c11, rfl, _, _, hrd11, _⟩ := hrow11.rd
  have B11 := B10.trans (hb11.mono B10.size)
  go_wp2_with fail
  refine (same_calls A10 A11 c10 c11 (runes l) (runes l) w11 (hrd10.later hb11) hrd11 (by omega) (by omega) (runes_le l)).mono ?_
  rintro e w12 ⟨rfl, hb12⟩
  rw [decide_eq_true rfl]
  go_wp2
  go_ret
  exact ⟨rfl, B11.trans (hb12.mono B11.size)⟩
end Go.Proofs.Ytphfopbklebeoaa
