import Derived.Test.YtfegchonclhjjaaWr2
import Derived.Test.YtfegchonclhjjaaWf
import Derived.Test.YtfegchonclhjjaaWe4
import Derived.Test.YtfegchonclhjjaaWe5
namespace Go.Proofs.Ytfegchonclhjjaa
open Go.RowKit
theorem str_ne {s : ByteArray} {c : Bs} (hs : s = ⟨c.toArray⟩) (h : c ≠ []) : s.toList.isEmpty = false := by
  rw [hs, ByteArray.toList_eq]
  cases c with
  | nil => exact absurd rfl h
  | cons x t => rfl
/-- ref.Wide. -/
theorem rWide_calls (c : Bs) (hc : c.length ≤ 4294967296) (s : ByteArray) (hs : s = ⟨c.toArray⟩) (w : World) :
    Calls Try.prog 22 #[.string s] w fun e w' => e = .returned (.int .i64 (wid c)) ∧ Below w.heap.size w w' := by
  by_cases h0 : c = []
  · subst h0
    subst hs
    go_enter Try.func22, Try.ntmps22
    go_wp2
    go_ret
    exact ⟨rfl, Below.refl _ _⟩
  · have hnx := nxt_ne h0
    have hse : s.toList.isEmpty = false := str_ne hs h0
    obtain ⟨cap, W, hcv, h1, h2, h3, h4⟩ := conv_bytes (P := Try.prog) w _ _ _ c Try.underlying9 Try.underlying38 Try.underlying5 (by simp only [maxLen]; omega)
    rw [← hs] at hcv
    clear hs
    obtain ⟨r, hr⟩ : ∃ r : Int, r = ((dec c).1 : Int) := ⟨_, rfl⟩
    have HR := Lib.hid hr
    have hwid : wid c = max (wof r) 1 := by unfold wid; rw [if_neg h0, hr]
    have HW := Lib.hid hwid
    have hwc := wof_cases r
    clear hwid hr
    go_enter Try.func22, Try.ntmps22
    go_wp2_with fail
    refine (rNext_calls _ cap c W h3 hc).mono ?_
    rintro e w1 ⟨rfl, hb1⟩
    rw [hnx, show i64 ((dec c).1 : Int) = .int .i64 r from by rw [HR.out]]
    have B1 := h4.trans (hb1.mono h4.size)
    go_wp2_with fail
    refine (rOf_calls r w1).mono ?_
    rintro e w2 ⟨rfl, hb2⟩
    have B2 := B1.trans (hb2.mono B1.size)
    rcases hwc with e | e | e
    all_goals
      rw [e]
      go_wp2
      go_ret
      exact ⟨by rw [HW.out, e]; rfl, B2⟩
end Go.Proofs.Ytfegchonclhjjaa
