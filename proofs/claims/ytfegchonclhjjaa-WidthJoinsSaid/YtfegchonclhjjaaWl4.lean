import Derived.Test.YtfegchonclhjjaaWl3
import Derived.Test.YtfegchonclhjjaaWr4
namespace Go.Proofs.Ytfegchonclhjjaa
open Go.RowKit
theorem lit_of {a : ByteArray} {c : Bs} (h : a = ⟨c.toArray⟩) : str c = .string a := by rw [h]
set_option maxHeartbeats 1600000 in
set_option maxRecDepth 100000 in
theorem WidthShows_walk (s : ByteArray) (w : World) :
    Calls Try.prog 5 #[.string s] w fun e w' => e = .returned (.bool true) ∧ Below w.heap.size w w' := by
  obtain ⟨l, hs⟩ : ∃ l : Bs, s = ⟨l.toArray⟩ := ⟨s.data.toList, by cases s; rfl⟩
  have hsz : s.size = l.length := by rw [hs, str_of]
  have HS := Lib.hid hs
  clear hs
  by_cases hbig : 1000 < l.length
  · go_enter Try.func5, Try.ntmps5
    go_wp2_with fail
    refine (alive_calls _).mono ?_
    rintro e w1 ⟨rfl, hb⟩
    go_wp2
    go_ret
    exact ⟨rfl, hb⟩
  have hl : l.length ≤ 4294967296 := by omega
  have hcl := cuts_len l
  have hag : ∀ c ∈ cuts l, IsCl c ∧ c ≠ [] ∧ c.length ≤ 1000 := fun c hc => ⟨cuts_is hc, cuts_nz l c hc, by have := mem_cuts hc; omega⟩
  obtain ⟨cs, hcs⟩ : ∃ cs, cs = cuts l := ⟨_, rfl⟩
  rw [← hcs] at hcl hag
  have HCS := Lib.hid hcs
  have HAG := Lib.hid hag
  clear hcs hag
  go_enter Try.func5, Try.ntmps5
  go_wp2_with (go_at_call 19; refine (rCut_calls l hl s HS.out w).mono ?_; rintro e w1 ⟨v1, rfl, hrow1, hb1⟩; rw [← HCS.out] at hrow1; obtain ⟨A1, c1, rfl, _, _, hrd1, hA1⟩ := hrow1.rd; clear hrow1; have HR1 := Lib.hid hrd1; clear hrd1)
  go_loopw [3, 14] (fun u3 u14 wr => ∃ k : Nat, u14 = .int .i64 k ∧ k ≤ cs.length ∧ u3 = .int .i64 (wsum (cs.take k)) ∧ Below w1.heap.size w1 wr) (fun _ u14 _ => cs.length - (intOf u14).toNat)
  case atStart => exact ⟨0, rfl, Nat.zero_le _, rfl, Below.refl _ _⟩
  case round =>
    obtain ⟨k, rfl, hk, rfl, hbr⟩ := hrel
    by_cases hgo : k < cs.length
    · obtain ⟨cc, hcc⟩ : ∃ cc, cs[k]? = some cc := ⟨_, List.getElem?_eq_getElem hgo⟩
      obtain ⟨g1, o1, rfl, hk1⟩ := (HR1.out.later hbr) k (str cc) (by rw [List.getElem?_map, hcc]; rfl)
      obtain ⟨hc1, hc2, hc3⟩ := HAG.out cc (List.mem_of_getElem? hcc)
      have hsh := (shown_is hc1 hc2).cuts
      have hws := wid_shown hc2
      obtain ⟨sh, hshq⟩ : ∃ sh, sh = shown cc := ⟨_, rfl⟩
      have hshl : sh.length ≤ 4294967296 := by
        rw [hshq]; unfold shown
        rw [if_neg hc2]
        split
        · decide
        · have := clean_len cc; omega
      rw [← hshq] at hsh hws
      obtain ⟨a, ha⟩ : ∃ a : ByteArray, a = ⟨cc.toArray⟩ := ⟨_, rfl⟩
      obtain ⟨b, hb⟩ : ∃ b : ByteArray, b = ⟨sh.toArray⟩ := ⟨_, rfl⟩
      rw [lit_of ha] at hk1
      have heq := str_beq hb hb
      rw [decide_eq_true rfl] at heq
      have hsum := wsum_le (cs.take k)
      rw [List.length_take] at hsum
      have hwc := wid_le cc
      have hnext : wsum (cs.take (k + 1)) = wsum (cs.take k) + wid cc := by rw [List.take_add_one, hcc, ← wsum_snoc]; rfl
      obtain ⟨m, hm⟩ : ∃ m, m = wsum (cs.take k) := ⟨_, rfl⟩
      obtain ⟨d, hd⟩ : ∃ d, d = wid cc := ⟨_, rfl⟩
      rw [← hd] at hws hwc
      rw [← hm] at hsum ⊢
      rw [← hm, ← hd] at hnext
      have HA := Lib.hid ha
      have HB := Lib.hid hb
      have HSH := Lib.hid hshq
      have HSC := Lib.hid hsh
      have HWS := Lib.hid hws
      have HN := Lib.hid hnext
      have HD := Lib.hid hd
      have i1 : (k : Int) < (cs.length : Int) := by omega
      clear hcc ha hb hshq hsh hws hnext hm hd hc1
      have hcl4 : cc.length ≤ 4294967296 := by omega
      go_wp2_with fail
      refine (Show_calls cc hcl4 a HA.out _).mono ?_
      rintro e w2 ⟨rfl, hb2⟩
      rw [← HSH.out, ← HB.out]
      go_wp2_with fail
      refine (Wide_calls cc hcl4 a HA.out _).mono ?_
      rintro e w3 ⟨rfl, hb3⟩
      have B3 := hb2.trans (hb3.mono hb2.size)
      rw [← HD.out]
      go_wp2_with fail
      refine (rWide_calls cc hcl4 a HA.out _).mono ?_
      rintro e w4 ⟨rfl, hb4⟩
      have B4 := B3.trans (hb4.mono B3.size)
      rw [← HD.out]
      go_wp2_with fail
      refine (rShow_calls cc hcl4 a HA.out _).mono ?_
      rintro e w5 ⟨rfl, hb5⟩
      have B5 := B4.trans (hb5.mono B4.size)
      rw [← HSH.out, ← HB.out]
      go_wp2_with fail
      refine (Cut_calls sh hshl b HB.out _).mono ?_
      rintro e w6 ⟨v6, rfl, hrow6, hb6⟩
      have B6 := B5.trans (hb6.mono B5.size)
      rw [HSC.out, show List.length [sh] = 1 from rfl] at hrow6
      obtain ⟨A6, c6, rfl, _⟩ := hrow6.rd
      clear hrow6
      go_wp2_with fail
      refine (Wide_calls sh hshl b HB.out _).mono ?_
      rintro e w7 ⟨rfl, hb7⟩
      have B7 := B6.trans (hb7.mono B6.size)
      rw [HWS.out]
      go_wp2_with fail
      refine (Wide_calls cc hcl4 a HA.out _).mono ?_
      rintro e w8 ⟨rfl, hb8⟩
      have B8 := B7.trans (hb8.mono B7.size)
      rw [← HD.out]
      go_wp2_with fail
      refine (Wide_calls cc hcl4 a HA.out _).mono ?_
      rintro e w9 ⟨rfl, hb9⟩
      have B9 := B8.trans (hb9.mono B8.size)
      rw [← HD.out]
      go_wp2
      go_roundw
      case rel => exact ⟨k + 1, by go_num, by omega, by rw [HN.out], hbr.trans (B9.mono hbr.size)⟩
      case measure => simp [intOf]; omega
    · have hke : k = cs.length := by omega
      subst hke
      rw [List.take_length]
      have hB := hb1.trans (hbr.mono hb1.size)
      obtain ⟨m, hm⟩ : ∃ m, m = wsum cs := ⟨_, rfl⟩
      obtain ⟨d, hd⟩ : ∃ d, d = wid l := ⟨_, rfl⟩
      obtain ⟨b, hb⟩ : ∃ b : ByteArray, b = ⟨(shown l).toArray⟩ := ⟨_, rfl⟩
      have heq := str_beq hb hb
      rw [decide_eq_true rfl] at heq
      have hm2 : wsum (cuts l) = m := by rw [hm, HCS.out]
      rw [← hm]
      have HM := Lib.hid hm2
      have HD := Lib.hid hd
      have HB := Lib.hid hb
      clear hm hm2 hd hb
      go_wp2_with fail
      refine (alive_calls _).mono ?_
      rintro e w3 ⟨rfl, hb3⟩
      have B3 := hB.trans (hb3.mono hB.size)
      go_wp2_with fail
      refine (Sum_calls l hl s HS.out _).mono ?_
      rintro e w4 ⟨rfl, hb4⟩
      have B4 := B3.trans (hb4.mono B3.size)
      rw [HM.out]
      go_wp2_with fail
      refine (rSum_calls l hl s HS.out _).mono ?_
      rintro e w5 ⟨rfl, hb5⟩
      have B5 := B4.trans (hb5.mono B4.size)
      rw [HM.out]
      go_wp2_with fail
      refine (Wide_calls l hl s HS.out _).mono ?_
      rintro e w6 ⟨rfl, hb6⟩
      have B6 := B5.trans (hb6.mono B5.size)
      rw [← HD.out]
      go_wp2_with fail
      refine (rWide_calls l hl s HS.out _).mono ?_
      rintro e w7 ⟨rfl, hb7⟩
      have B7 := B6.trans (hb7.mono B6.size)
      rw [← HD.out]
      go_wp2_with fail
      refine (Show_calls l hl s HS.out _).mono ?_
      rintro e w8 ⟨rfl, hb8⟩
      have B8 := B7.trans (hb8.mono B7.size)
      rw [← HB.out]
      go_wp2_with fail
      refine (rShow_calls l hl s HS.out _).mono ?_
      rintro e w9 ⟨rfl, hb9⟩
      have B9 := B8.trans (hb9.mono B8.size)
      rw [← HB.out]
      go_wp2
      go_ret
      exact ⟨rfl, B9⟩
end Go.Proofs.Ytfegchonclhjjaa
