import Derived.Test.YtfegchonclhjjaaWo3
import Derived.Test.YtfegchonclhjjaaCv
import Derived.Test.YtfegchonclhjjaaKa
import Derived.Test.YtfegchonclhjjaaWc
namespace Go.Proofs.Ytfegchonclhjjaa
open Go.RowKit
/-- What is shown of a cluster that cannot be: bytes ef bf bd. -/
def wrongB : Bs := [0xef, 0xbf, 0xbd]
def wid (c : Bs) : Int := if c = [] then 0 else max (wof ((dec c).1 : Int)) 1
def bad (c : Bs) : Bool := wof ((dec c).1 : Int) == 0 || ctl ((dec c).1 : Int)
def shown (c : Bs) : Bs := if c = [] then [] else if bad c then wrongB else clean c
/-- width.first. -/
theorem first_calls (c : Bs) (hc : c.length ≤ 4294967296) (s : ByteArray) (hs : s = ⟨c.toArray⟩) (w : World) :
    Calls Try.prog 33 #[.string s] w fun e w' => e = .returned (.tuple #[i32 (nxt c).1, .bool (decide (c ≠ []))]) ∧ Below w.heap.size w w' := by
  subst hs
  obtain ⟨cap, W, hcv, h1, h2, h3, h4⟩ := conv_bytes (P := Try.prog) w _ _ _ c Try.underlying9 Try.underlying38 Try.underlying5 (by simp only [maxLen]; omega)
  have hb : decide (0 < (nxt c).2) = decide (c ≠ []) := by
    by_cases h : c = []
    · simp [nxt, h]
    · simp [nxt, h]; have := dec_pos c; omega
  have HB := Lib.hid hb
  clear hb
  generalize hs : (⟨c.toArray⟩ : ByteArray) = s at hcv ⊢
  clear hs
  go_enter Try.func33, Try.ntmps33
  go_wp2_with fail
  refine (Next_calls _ cap c W h3 h1 h2).mono ?_
  rintro e w1 ⟨rfl, hb⟩
  go_wp2
  go_ret2
  exact ⟨by rw [← HB.out]; simp, h4.trans (hb.mono h4.size)⟩
/-- width.Wide. -/
theorem Wide_calls (c : Bs) (hc : c.length ≤ 4294967296) (s : ByteArray) (hs : s = ⟨c.toArray⟩) (w : World) :
    Calls Try.prog 21 #[.string s] w fun e w' => e = .returned (.int .i64 (wid c)) ∧ Below w.heap.size w w' := by
  have HS := Lib.hid hs
  clear hs
  by_cases h0 : c = []
  · go_enter Try.func21, Try.ntmps21
    go_wp2_with fail
    refine (first_calls c hc s HS.out w).mono ?_
    rintro e w1 ⟨rfl, hb⟩
    rw [show decide (c ≠ []) = false by simp [h0]]
    go_wp2
    go_ret
    exact ⟨by simp [wid, h0], hb⟩
  · have hnx := nxt_ne h0
    obtain ⟨r, hr⟩ : ∃ r : Int, r = ((dec c).1 : Int) := ⟨_, rfl⟩
    have HR := Lib.hid hr
    have hwc := wof_cases r
    go_enter Try.func21, Try.ntmps21
    go_wp2_with fail
    refine (first_calls c hc s HS.out w).mono ?_
    rintro e w1 ⟨rfl, hb⟩
    rw [show decide (c ≠ []) = true by simp [h0], hnx, show i32 (dec c).1 = .int .i32 r from by rw [hr]]
    clear hnx hr
    go_wp2_with fail
    refine (Of_calls r w1).mono ?_
    rintro e w2 ⟨rfl, hb2⟩
    have hb3 := hb.trans (hb2.mono hb.size)
    have hwid : wid c = max (wof r) 1 := by unfold wid; rw [if_neg h0, HR.out]
    have HW := Lib.hid hwid
    clear hwid
    rcases hwc with e | e | e
    all_goals
      rw [e]
      go_wp2
      go_ret
      exact ⟨by rw [HW.out, e]; rfl, hb3⟩
/-- width.Show. -/
theorem Show_calls (c : Bs) (hc : c.length ≤ 4294967296) (s : ByteArray) (hs : s = ⟨c.toArray⟩) (w : World) :
    Calls Try.prog 20 #[.string s] w fun e w' => e = .returned (.string ⟨(shown c).toArray⟩) ∧ Below w.heap.size w w' := by
  have HS := Lib.hid hs
  clear hs
  by_cases h0 : c = []
  · go_enter Try.func20, Try.ntmps20
    go_wp2_with fail
    refine (first_calls c hc s HS.out w).mono ?_
    rintro e w1 ⟨rfl, hb⟩
    rw [show decide (c ≠ []) = false by simp [h0]]
    go_wp2
    go_ret
    exact ⟨by rw [h0]; rfl, hb⟩
  · have hnx := nxt_ne h0
    obtain ⟨r, hr⟩ : ∃ r : Int, r = ((dec c).1 : Int) := ⟨_, rfl⟩
    have hsh : shown c = if (wof r == 0 || ctl r) = true then wrongB else clean c := by unfold shown bad; rw [if_neg h0, hr]
    have HSH := Lib.hid hsh
    have HR := Lib.hid hr
    obtain ⟨cap, hcv⟩ : ∃ cap : World → Nat, ∀ w, ∃ W, (convert 9 38 (.string s)).run Try.prog w = .ok (.slice (some ⟨w.heap.size, 0, none⟩) c.length (cap w)) W ∧ RdB W (some ⟨w.heap.size, 0, none⟩) c ∧ Below w.heap.size w W := by
      refine ⟨fun w => Classical.choose (conv_bytes (P := Try.prog) w _ _ _ c Try.underlying9 Try.underlying38 Try.underlying5 (by simp only [maxLen]; omega)), fun w => ?_⟩
      obtain ⟨W, a, _, _, b, d⟩ := Classical.choose_spec (conv_bytes (P := Try.prog) w _ _ _ c Try.underlying9 Try.underlying38 Try.underlying5 (by simp only [maxLen]; omega))
      exact ⟨W, by rw [HS.out]; exact a, b, d⟩
    have HCV := Lib.hid hcv
    clear hsh hcv
    go_enter Try.func20, Try.ntmps20
    go_wp2_with fail
    refine (first_calls c hc s HS.out w).mono ?_
    rintro e w1 ⟨rfl, hb⟩
    rw [show decide (c ≠ []) = true by simp [h0], hnx, show i32 (dec c).1 = .int .i32 r from by rw [hr]]
    clear hnx hr
    go_wp2_with fail
    refine (Of_calls r w1).mono ?_
    rintro e w2 ⟨rfl, hb2⟩
    have hb3 := hb.trans (hb2.mono hb.size)
    by_cases hz : wof r = 0
    · rw [hz]
      go_wp2
      go_ret
      refine ⟨?_, hb3⟩
      rw [HSH.out, if_pos (by rw [hz]; rfl)]
      rfl
    · have hz' : (wof r == 0) = false := by simpa using hz
      have HZ := Lib.hid hz'
      obtain ⟨z, hzz⟩ : ∃ z, z = wof r := ⟨_, rfl⟩
      rw [← hzz] at hz' ⊢
      clear hz
      have HZZ := Lib.hid hzz
      clear hzz
      by_cases hcl : ctl r = true
      · go_wp2_with (go_at_call 13; refine (Control_calls r w2).mono ?_; rintro e w3 ⟨rfl, hb4⟩; rw [hcl])
        go_ret
        refine ⟨?_, hb3.trans (hb4.mono hb3.size)⟩
        rw [HSH.out, if_pos (by rw [hcl, Bool.or_true])]
        rfl
      · have hcl' := Bool.eq_false_iff.2 hcl
        clear hcl
        go_wp2_with (first
          | (go_at_call 13; refine (Control_calls r w2).mono ?_; rintro e w3 ⟨rfl, hb4⟩; rw [hcl']; obtain ⟨W4, hcv4, hrd4, hb5⟩ := HCV.out w3)
          | (go_at_call 34; refine (Clean_calls _ _ c W4 hrd4 hc).mono ?_; rintro e w5 ⟨rfl, hb6⟩))
        go_ret
        refine ⟨?_, ((hb3.trans (hb4.mono hb3.size)).trans (hb5.mono (Nat.le_trans hb3.size hb4.size))).trans (hb6.mono (Nat.le_trans (Nat.le_trans hb3.size hb4.size) hb5.size))⟩
        rw [HSH.out, if_neg (by rw [HZ.out, hcl']; simp)]
        rfl
end Go.Proofs.Ytfegchonclhjjaa
