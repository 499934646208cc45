import Derived.Test.YtpemjhghiccngaaDoorHs28
import Derived.Lib.IndexMore
namespace Go.Proofs.YtpemjhghiccngaaDoor
set_option linter.unusedVariables false
set_option linter.unusedSimpArgs false
open Go.RowKit Go.Shelf
/-! The document's Place, Fits, Older, Newer. -/
theorem prefix_iff15 (a b : Bs) : b <+: a ↔ b.length ≤ a.length ∧ a.take b.length = b := by
  constructor
  · rintro ⟨t, rfl⟩
    exact ⟨by simp, by simp⟩
  · rintro ⟨_, h⟩
    exact ⟨a.drop b.length, by conv => lhs; lhs; rw [← h]
                               rw [List.take_append_drop]⟩
/-- Does c begin with s (m: or have it within)? -/
def fitsM (m : Bool) (c s : Bs) : Bool := if m = true then Lib.contains c s else decide (s <+: c)
theorem fits_iff (m : Bool) (c s : Bs) : fitsM m c s = true ↔ ∃ k, k + s.length ≤ c.length ∧ (c.drop k).take s.length = s ∧ (m = true ∨ k = 0) := by
  unfold fitsM
  cases m with
  | false =>
    simp only [Bool.false_eq_true, if_false, decide_eq_true_eq, false_or]
    rw [prefix_iff15]
    constructor
    · rintro ⟨h1, h2⟩
      exact ⟨0, by omega, by simpa using h2, rfl⟩
    · rintro ⟨k, h1, h2, rfl⟩
      exact ⟨by omega, by simpa using h2⟩
  | true =>
    simp only [if_true, true_or, and_true]
    unfold Lib.contains
    rw [decide_eq_true_eq]
    rcases Lib.index_spec c s with ⟨h1, h2⟩ | ⟨i, h1, h2, h3, _⟩
    · rw [h1]
      constructor
      · intro h; omega
      · rintro ⟨k, a, b⟩
        have := h2 k (by omega)
        unfold Lib.occAt at this
        rw [List.isPrefixOf_iff_prefix.2 ((prefix_iff15 _ _).2 ⟨by simp; omega, b⟩)] at this
        cases this
    · rw [h1]
      refine ⟨fun _ => ?_, fun _ => by omega⟩
      unfold Lib.occAt at h3
      obtain ⟨a, b⟩ := (prefix_iff15 _ _).1 (List.isPrefixOf_iff_prefix.1 h3)
      rw [List.length_drop] at a
      exact ⟨i, by omega, b⟩
def modeI (m : Bool) : Int := if m = true then 1 else 0
set_option maxRecDepth 100000 in
set_option maxHeartbeats 1600000 in
theorem Fits_calls (c s : Bs) (sc ss : ByteArray) (hsc : sc = ⟨c.toArray⟩) (hss : ss = ⟨s.toArray⟩) (hc : c.length ≤ 1000000) (hs : s.length ≤ 1000000) (m : Bool) (w : World) :
    Calls Tryd.prog 56 #[.string sc, .string ss, .int .i64 (modeI m)] w fun e w' => e = .returned (.bool (fitsM m c s)) ∧ w = w' := by
  have hzc : sc.size = c.length := by rw [hsc, str_of]
  have hzs : ss.size = s.length := by rw [hss, str_of]
  have hiff := fits_iff m c s
  obtain ⟨b, hb⟩ : ∃ b, b = fitsM m c s := ⟨_, rfl⟩
  rw [← hb] at hiff ⊢
  have HIF := Lib.hid hiff
  have HZC := Lib.hid hzc
  have HZS := Lib.hid hzs
  have hbe : ∀ k, ((sc.extract k (k + ss.size)).toList == ss.toList) = decide ((c.drop k).take s.length = s) := fun k => by
    have e : sc.extract k (k + ss.size) = ⟨((c.drop k).take s.length).toArray⟩ := by
      rw [hsc, extract_eq, hzs]
      congr 2
      rw [List.drop_take]; congr 1; omega
    rw [e, str_beq rfl hss]
  have HBE := Lib.hid hbe
  obtain ⟨md, hmd⟩ : ∃ md, md = modeI m := ⟨_, rfl⟩
  have hm1 : (md == 1) = m := by rw [hmd]; cases m <;> rfl
  have hm2 : decide (md = 1) = m := by rw [hmd]; cases m <;> rfl
  rw [← hmd]
  have i1 : sc.size ≤ 1000000 := by omega
  have i2 : ss.size ≤ 1000000 := by omega
  clear hmd hb hiff hzc hzs hbe hsc hss hc hs
  go_enter Tryd.func56, Tryd.ntmps56
  go_wp2
  go_loop [7] (fun u7 => ∃ k : Nat, u7 = n64 k ∧ k ≤ sc.size + 1 ∧ Hid (∀ j, j < k → ¬ ((c.drop j).take s.length = s ∧ (m = true ∨ j = 0)))) (fun u7 => (sc.size + 1 - intOf u7).toNat)
  case atStart => exact ⟨0, rfl, Nat.zero_le _, Lib.hid (fun j h => absurd h (by omega))⟩
  case round =>
    obtain ⟨k, rfl, hk, HNO⟩ := hrel
    by_cases hlt : k + ss.size ≤ sc.size
    · have b1 : (k : Int) + (ss.size : Int) ≤ (sc.size : Int) := by omega
      have b2 : (k : Int) ≤ (k : Int) + (ss.size : Int) := by omega
      have hkk : ((k : Int) + (ss.size : Int)).toNat = k + ss.size := by omega
      have hb := HBE.out k
      by_cases hit : (c.drop k).take s.length = s
      · rw [decide_eq_true hit] at hb
        cases m with
        | true =>
          have hfin : b = true := HIF.out.2 ⟨k, by have := HZC.out; have := HZS.out; omega, hit, .inl rfl⟩
          have HFN := Lib.hid hfin
          clear hit hfin
          go_wp2
          go_ret
          exact ⟨by rw [HFN.out]; rfl, rfl⟩
        | false =>
          cases k with
          | zero =>
            have hfin : b = true := HIF.out.2 ⟨0, by have := HZC.out; have := HZS.out; omega, hit, .inr rfl⟩
            have HFN := Lib.hid hfin
            rw [Nat.zero_add] at hb
            clear hit hfin
            go_wp2
            go_ret
            exact ⟨by rw [HFN.out]; rfl, rfl⟩
          | succ k =>
            have hno : Hid (∀ j, j < k + 1 + 1 → ¬ ((c.drop j).take s.length = s ∧ (false = true ∨ j = 0))) := Lib.hid (fun j hj => by
              by_cases e : j < k + 1
              · exact HNO.out j e
              · rintro ⟨_, h | h⟩
                · cases h
                · omega)
            clear hit
            go_wp2
            go_round
            case rel => exact ⟨k + 1 + 1, by go_num, by omega, hno⟩
            case measure => simp [intOf]; omega
      · rw [decide_eq_false hit] at hb
        have hno : Hid (∀ j, j < k + 1 → ¬ ((c.drop j).take s.length = s ∧ (m = true ∨ j = 0))) := Lib.hid (fun j hj => by
          by_cases e : j < k
          · exact HNO.out j e
          · obtain rfl : j = k := by omega
            exact fun h => hit h.1)
        clear hit
        go_wp2
        go_round
        case rel => exact ⟨k + 1, by go_num, by omega, hno⟩
        case measure => simp [intOf]; omega
    · have b1 : ¬ ((k : Int) + (ss.size : Int) ≤ (sc.size : Int)) := by omega
      have hfin : b = false := by
        cases hb : b with
        | false => rfl
        | true =>
          obtain ⟨j, h1, h2, h3⟩ := HIF.out.1 hb
          exact absurd ⟨h2, h3⟩ (HNO.out j (by have := HZC.out; have := HZS.out; omega))
      have HFN := Lib.hid hfin
      clear hfin
      go_wp2
      go_ret
      exact ⟨by rw [HFN.out]; rfl, rfl⟩
end Go.Proofs.YtpemjhghiccngaaDoor
