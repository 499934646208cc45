import Derived.Test.YtphfopbklebeoaaLw2
namespace Go.Proofs.Ytphfopbklebeoaa
open Go.RowKit
/-- bytes.Equal. -/
theorem Equal_calls (A A' : Option Addr) (c c' : Nat) (l l' : Bs) (w : World) (hr : RdB w A l) (hr' : RdB w A' l') :
    Calls Try.prog 24 #[.slice A l.length c, .slice A' l'.length c'] w fun e w' => e = .returned (.bool (decide (l = l'))) ∧ w = w' := by
  have h1 := row_str w A l c hr
  have h2 := row_str w A' l' c' hr'
  go_enter Try.func24, Try.ntmps24
  go_wp2
  go_ret
  refine ⟨?_, rfl⟩
  show Ending.returned (Value.bool (l == l')) = _
  rw [show (l == l') = decide (l = l') by rw [Bool.eq_iff_iff]; simp]
set_option maxHeartbeats 1600000 in
set_option maxRecDepth 100000 in
theorem SignOwn_walk (A : Option Addr) (c : Nat) (l : Bs) (w : World) (hr : RdB w A l) (hlc : l.length ≤ c) (hm : c ≤ maxLen) :
    Calls Try.prog 9 #[.slice A l.length c] w fun e w' => e = .returned (.bool true) ∧ Below w.heap.size w w' := by
  by_cases hbig : 1000 < l.length
  · go_enter Try.func9, Try.ntmps9
    go_wp2_with fail
    refine (alive_calls _).mono ?_
    rintro e w1 ⟨rfl, hb⟩
    go_wp2
    go_ret
    exact ⟨rfl, hb⟩
  have hl : l.length ≤ 4294967296 := by omega
  have HR := Lib.hid hr
  have hr0 := hr.later ((Below.refl _ w).alloc (Nat.le_refl _) (.cells #[] 5))
  clear hr
  have hnew := Row.new w #[] w.heap.size 5 1 0 (Nat.le_refl _) (by simp [maxLen]) (by simp)
  go_enter Try.func9, Try.ntmps9
  go_wp2_with (at_builtin; refine wpList_append_row _ rfl _ _ 22 rfl w.heap.size 5 1 1 _ Try.underlying22 Try.info_u8 rfl (by decide) (.slice (some ⟨w.heap.size, 0, none⟩) 0 0) 0 [] rfl hnew A _ _ (l.map byt) rfl (by simp) hr0 (by simp [Value.oneCell']) (by omega) (by simp only [maxLen]; omega) (by simp) ?_; intro A1 c1 w1 hrow1 hg1 hb1)
  have B1 : Below w.heap.size w w1 := app_below (Below.refl _ _) (Nat.le_refl _) hg1 fun k e => by simp [Value.ownBlock] at e; omega
  obtain ⟨A1', c1', e, _, _, hrd1, _⟩ := hrow1.rd
  cases e
  simp only [List.nil_append] at hrd1
  refine (Next_calls A c l w1 (HR.out.later B1) hlc hm).mono ?_
  rintro e w2 ⟨rfl, hb2⟩
  have B2 := B1.trans (hb2.mono B1.size)
  clear hr0 hnew hrow1
  go_wp2_with fail
  refine (Runes_calls A c l w2 (HR.out.later B2) hl).mono ?_
  rintro e w3 ⟨v3, rfl, _, hb3⟩
  have B3 := B2.trans (hb3.mono B2.size)
  have C3 := hb2.trans (hb3.mono hb2.size)
  go_wp2_with fail
  refine (Clean_calls A c l w3 (HR.out.later B3) hl).mono ?_
  rintro e w4 ⟨rfl, hb4⟩
  have B4 := B3.trans (hb4.mono B3.size)
  have C4 := C3.trans (hb4.mono C3.size)
  go_wp2_with fail
  refine (Whole_calls A c l w4 (HR.out.later B4) hl).mono ?_
  rintro e w4' ⟨rfl, rfl⟩
  go_wp2_with fail
  refine (alive_calls w4).mono ?_
  rintro e w5 ⟨rfl, hb5⟩
  have B5 := B4.trans (hb5.mono B4.size)
  have C5 := C4.trans (hb5.mono C4.size)
  go_wp2_with fail
  refine (Equal_calls A A1 c c1 l l w5 (HR.out.later B5) (Rd.later hrd1 C5)).mono ?_
  rintro e w6 ⟨rfl, rfl⟩
  rw [decide_eq_true rfl]
  go_wp2
  go_ret
  exact ⟨rfl, B5⟩
end Go.Proofs.Ytphfopbklebeoaa
