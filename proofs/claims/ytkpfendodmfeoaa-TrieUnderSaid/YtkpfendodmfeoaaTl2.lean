import Derived.Test.YtkpfendodmfeoaaTl1
namespace Go.Proofs.Ytkpfendodmfeoaa
set_option linter.unusedVariables false
set_option linter.unusedSimpArgs false
open Go.RowKit
set_option maxHeartbeats 1600000 in
set_option maxRecDepth 100000 in
theorem TrieUnder_walk (w : World) (A : Option Addr) (c : Nat) (ops : List OpT) (hr : Rd w A (flatO ops)) (hA : ∀ a, A = some a → ops ≠ [] → a.block < w.heap.size) (hl : ops.length ≤ 140737488351232) (hk : ∀ o ∈ ops, o.key.length ≤ 140737488351232) (s : ByteArray) (hsz : s.size ≤ maxLen) :
    Calls Try.prog 5 #[.slice A ops.length c, .string s] w fun e w' => e = .returned (.bool true) ∧ Below w.heap.size w w' := by
  unfold maxLen at hsz
  obtain ⟨p, hs⟩ : ∃ l : Bs, s = ⟨l.toArray⟩ := ⟨s.data.toList, by cases s; rfl⟩
  have hsl : s.size = p.length := by rw [hs, str_of]
  have qf := few_calls w A c ops hr hA hl hk
  have QF := Lib.hid qf
  have HR := Lib.hid hr
  have HA := Lib.hid hA
  have HS := Lib.hid hs
  have HSL := Lib.hid hsl
  clear qf hr hA hk hs hsl
  go_enter Try.func5, Try.ntmps5
  go_wp2_with fail
  refine QF.out.mono ?_
  rintro e w1 ⟨rfl, hb1⟩
  cases hfw : fewB ops with
  | false =>
    clear hfw
    go_wp2_with fail
    refine (alive_calls _).mono ?_
    rintro e w2 ⟨rfl, hb2⟩
    go_wp2
    go_ret
    exact ⟨rfl, hb1.trans (hb2.mono hb1.size)⟩
  | true =>
    obtain ⟨h80, hk⟩ := few_of hfw
    have hqb := begin_calls w1 A c ops (HR.out.later hb1) (fun a ha hne => Nat.lt_of_lt_of_le (HA.out a ha hne) hb1.size) h80 hk
    have hkeys : KeysLe 10000 (opsDo ops) := opsDo_keys fun o ho => Nat.le_trans (hk o ho) (by omega)
    have hlen : (opsDo ops).length ≤ 80 := Nat.le_trans (opsDo_len _) h80
    have QB := Lib.hid hqb
    have HKK := Lib.hid hkeys
    clear hfw hk hqb hkeys
    by_cases h200 : 200 < s.size
    · go_wp2_with fail
      refine (alive_calls _).mono ?_
      rintro e w2 ⟨rfl, hb2⟩
      go_wp2
      go_ret
      exact ⟨rfl, hb1.trans (hb2.mono hb1.size)⟩
    · go_wp2_with fail
      refine QB.out.mono ?_
      rintro e w2 ⟨tb, v, rfl, ht, hb2⟩
      have B2 := hb1.trans (hb2.mono hb1.size)
      have HT := Lib.hid ht
      clear ht hb2
      go_wp2
      go_loopw [27] (fun u27 wr => ∃ j : Nat, u27 = n64 j ∧ j ≤ s.size + 1 ∧ TV w1.heap.size wr tb v (opsDo ops) ∧ Below w.heap.size w wr) (fun u27 _ => (s.size + 1 - intOf u27).toNat)
      case atStart => exact ⟨0, rfl, by omega, HT.out, B2⟩
      case round =>
        obtain ⟨j, rfl, hj, ht, hb⟩ := hrel
        have HTj := Lib.hid ht
        have HB := Lib.hid hb
        have hbs := hb.size
        clear ht hb B2 hb1
        by_cases hlt : j < s.size + 1
        · have hj0 : (0 : Int) ≤ (j : Int) := by omega
          have hj1 : (j : Int) ≤ (s.size : Int) := by omega
          have hpl : (p.take j).length ≤ 200 := by rw [List.length_take]; have := HSL.out; omega
          have hq := tv_same wr HTj.out HKK.out (by omega) (s.extract 0 j) (p.take j) (by rw [HS.out, extract_eq]; simp) (by omega)
          have HQ := Lib.hid hq
          clear hq hpl
          go_wp2_with fail
          refine HQ.out.mono ?_
          rintro e w4 ⟨rfl, hb4⟩
          have ht4 := HTj.out.move hb4
          have HT4 := Lib.hid ht4
          have B4 := HB.out.trans (hb4.mono hbs)
          clear ht4 hb4
          go_wp2
          go_roundw
          case rel => exact ⟨j + 1, by go_num, by omega, HT4.out, B4⟩
          case measure => simp [intOf]; omega
        · obtain rfl : j = s.size + 1 := by omega
          go_wp2_with fail
          refine (alive_calls _).mono ?_
          rintro e w3 ⟨rfl, hb3⟩
          go_wp2
          go_ret
          exact ⟨rfl, HB.out.trans (hb3.mono hbs)⟩
end Go.Proofs.Ytkpfendodmfeoaa
