import Derived.Test.YtfegchonclhjjaaWp
import Derived.Test.YtfegchonclhjjaaWl2
namespace Go.Proofs.Ytfegchonclhjjaa
open Go.RowKit
set_option maxHeartbeats 800000 in
set_option maxRecDepth 100000 in
theorem WidthAgain_walk (s : ByteArray) (w : World) :
    Calls Try.prog 8 #[.string s] w fun e w' => e = .returned (.bool true) ∧ Below w.heap.size w w' := by
  obtain ⟨l, hs⟩ : ∃ l : Bs, s = ⟨l.toArray⟩ := ⟨s.data.toList, by cases s; rfl⟩
  have hsz : s.size = l.length := by rw [hs, str_of]
  have HS := Lib.hid hs
  clear hs
  by_cases hbig : 1000 < l.length
  · go_enter Try.func8, Try.ntmps8
    go_wp2_with fail
    refine (alive_calls _).mono ?_
    rintro e w1 ⟨rfl, hb⟩
    go_wp2
    go_ret
    exact ⟨rfl, hb⟩
  have hl : l.length ≤ 4294967296 := by omega
  have hcl := cuts_len l
  have hag : ∀ c ∈ cuts l, cuts c = [c] ∧ c.length ≤ 4294967296 := fun c hc => ⟨cuts_again hc, by have := mem_cuts hc; omega⟩
  obtain ⟨cs, hcs⟩ : ∃ cs, cs = cuts l := ⟨_, rfl⟩
  rw [← hcs] at hcl hag
  have HCS := Lib.hid hcs
  have HAG := Lib.hid hag
  clear hcs hag
  go_enter Try.func8, Try.ntmps8
  go_wp2_with (go_at_call 15; refine (Cut_calls l hl s HS.out w).mono ?_; rintro e w1 ⟨v1, rfl, hrow1, hb1⟩; rw [← HCS.out] at hrow1; obtain ⟨A1, c1, rfl, _, _, hrd1, hA1⟩ := hrow1.rd; clear hrow1; have HR1 := Lib.hid hrd1; clear hrd1)
  go_loopw [13] (fun u13 wr => ∃ k : Nat, u13 = .int .i64 k ∧ k ≤ cs.length ∧ Below w1.heap.size w1 wr) (fun u13 _ => cs.length - (intOf u13).toNat)
  case atStart => exact ⟨0, rfl, Nat.zero_le _, Below.refl _ _⟩
  case round =>
    obtain ⟨k, rfl, hk, hbr⟩ := hrel
    by_cases hgo : k < cs.length
    · obtain ⟨cc, hcc⟩ : ∃ cc, cs[k]? = some cc := ⟨_, List.getElem?_eq_getElem hgo⟩
      obtain ⟨g1, o1, rfl, hk1⟩ := (HR1.out.later hbr) k (str cc) (by rw [List.getElem?_map, hcc]; rfl)
      obtain ⟨hc1, hc2⟩ := HAG.out cc (List.mem_of_getElem? hcc)
      obtain ⟨a, ha⟩ : ∃ a : ByteArray, a = ⟨cc.toArray⟩ := ⟨_, rfl⟩
      rw [show str cc = .string a from by rw [ha]] at hk1
      have HA := Lib.hid ha
      have HC := Lib.hid hc1
      have i1 : (k : Int) < (cs.length : Int) := by omega
      have heq := str_beq ha ha
      rw [decide_eq_true rfl] at heq
      clear hc1 hcc ha
      go_wp2_with (go_at_call 15; refine (Cut_calls cc hc2 a HA.out _).mono ?_; rintro e w2 ⟨v2, rfl, hrow2, hb2⟩; rw [HC.out, show List.length [cc] = 1 from rfl] at hrow2; obtain ⟨A2, c2, rfl, _, _, hrd2, hA2⟩ := hrow2.rd; obtain ⟨g2, o2, rfl, hk2⟩ := hrd2 0 (str cc) rfl; rw [Nat.add_zero, show str cc = .string a from by rw [HA.out]] at hk2; clear hrow2 hrd2)
      go_roundw
      case rel => exact ⟨k + 1, by go_num, by omega, hbr.trans (hb2.mono hbr.size)⟩
      case measure => simp [intOf]; omega
    · go_wp2_with fail
      have hB := hb1.trans (hbr.mono hb1.size)
      refine (alive_calls _).mono ?_
      rintro e w3 ⟨rfl, hb3⟩
      go_wp2
      go_ret
      exact ⟨rfl, hB.trans (hb3.mono hB.size)⟩
end Go.Proofs.Ytfegchonclhjjaa
