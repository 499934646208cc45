import Derived.Test.YtkpfendodmfeoaaTl1
namespace Go.Proofs.Ytkpfendodmfeoaa
set_option linter.unusedVariables false
set_option linter.unusedSimpArgs false
open Go.RowKit
theorem tv_get (w : World) {N tb : Nat} {v : Value} {l : Ents V} (h : TV N w tb v l) (hK : KeysLe 10000 l) (s : ByteArray) (k : Bs) (hs : s = ⟨k.toArray⟩) (hl : k.length ≤ 10000) :
    Calls Try.prog 21 #[.pointer (some ⟨tb, 0, none⟩), .string s] w fun e w' => e = .returned (.tuple #[gotV encV (lget l k), .bool (lget l k).isSome]) ∧ Below w.heap.size w w' := by
  obtain ⟨fp, h1, h2, h3⟩ := h
  exact (TGet_calls w tb l fp h1 10000 (by omega) hK s k hs (by omega)).mono fun e w' ⟨a, b⟩ => ⟨a, tr_dr (Below.refl _ _) b⟩
theorem tv_rget (w : World) {N tb : Nat} {v : Value} {l : Ents V} (h : TV N w tb v l) (hN : l.length ≤ 10000) (s : ByteArray) (k : Bs) (hs : s = ⟨k.toArray⟩) :
    Calls Try.prog 22 #[v, .string s] w fun e w' => e = .returned (.tuple #[gotV encV (lget l k), .bool (lget l k).isSome]) ∧ w = w' := by
  obtain ⟨fp, h1, h2, h3⟩ := h
  exact rGet_calls w N v l h3 (by omega) s k hs
theorem tv_longest (w : World) {N tb : Nat} {v : Value} {l : Ents V} (h : TV N w tb v l) (hK : KeysLe 10000 l) (s : ByteArray) (k : Bs) (hs : s = ⟨k.toArray⟩) (hl : k.length ≤ 10000) :
    Calls Try.prog 23 #[.pointer (some ⟨tb, 0, none⟩), .string s] w fun e w' => ∃ o, LgOf l k o ∧ e = .returned (.tuple #[str (lgB k o), .bool o.isSome]) ∧ Below w.heap.size w w' := by
  obtain ⟨fp, h1, h2, h3⟩ := h
  exact (TLongest_calls w tb l fp h1 10000 (by omega) hK s k hs (by omega)).mono fun e w' ⟨o, a, b, c⟩ => ⟨o, a, b, tr_dr (Below.refl _ _) c⟩
theorem tv_rlongest (w : World) {N tb : Nat} {v : Value} {l : Ents V} (h : TV N w tb v l) (hK : KeysLe 10000 l) (hN : l.length ≤ 10000) (s : ByteArray) (k : Bs) (hs : s = ⟨k.toArray⟩) (hl : k.length ≤ 10000) :
    Calls Try.prog 24 #[v, .string s] w fun e w' => ∃ o, LgOf l k o ∧ e = .returned (.tuple #[str (lgB k o), .bool o.isSome]) ∧ w = w' := by
  obtain ⟨fp, h1, h2, h3⟩ := h
  exact rLongest_calls w N v l h3 (by omega) (fun q hq => by have := hK q hq; omega) s k hs (by omega)
theorem gotV_int (o : Option V) : ∃ n : Int, gotV encV o = .int .i64 n := by
  cases o with
  | none => exact ⟨0, rfl⟩
  | some v => exact ⟨v, rfl⟩
set_option maxHeartbeats 1600000 in
set_option maxRecDepth 100000 in
theorem TrieFinds_walk (w : World) (A : Option Addr) (c : Nat) (ops : List OpT) (hr : Rd w A (flatO ops)) (hA : ∀ a, A = some a → ops ≠ [] → a.block < w.heap.size) (hl : ops.length ≤ 140737488351232) (hk : ∀ o ∈ ops, o.key.length ≤ 140737488351232) (s : ByteArray) (hsz : s.size ≤ maxLen) :
    Calls Try.prog 6 #[.slice A ops.length c, .string s] w fun e w' => e = .returned (.bool true) ∧ Below w.heap.size w w' := by
  unfold maxLen at hsz
  obtain ⟨p, hs⟩ : ∃ l : Bs, s = ⟨l.toArray⟩ := ⟨s.data.toList, by cases s; rfl⟩
  have hsl : s.size = p.length := by rw [hs, str_of]
  have qf := few_calls w A c ops hr hA hl hk
  have QF := Lib.hid qf
  have HR := Lib.hid hr
  have HA := Lib.hid hA
  have HS := Lib.hid hs
  have HSL := Lib.hid hsl
  clear qf hr hA hk hs hsl
  go_enter Try.func6, Try.ntmps6
  go_wp2_with fail
  refine QF.out.mono ?_
  rintro e w1 ⟨rfl, hb1⟩
  cases hfw : fewB ops with
  | false =>
    clear hfw
    go_wp2_with fail
    refine (alive_calls _).mono ?_
    rintro e w2 ⟨rfl, hb2⟩
    go_wp2
    go_ret
    exact ⟨rfl, hb1.trans (hb2.mono hb1.size)⟩
  | true =>
    obtain ⟨h80, hk⟩ := few_of hfw
    have hqb := begin_calls w1 A c ops (HR.out.later hb1) (fun a ha hne => Nat.lt_of_lt_of_le (HA.out a ha hne) hb1.size) h80 hk
    have hkeys : KeysLe 10000 (opsDo ops) := opsDo_keys fun o ho => Nat.le_trans (hk o ho) (by omega)
    have hlen : (opsDo ops).length ≤ 80 := Nat.le_trans (opsDo_len _) h80
    have QB := Lib.hid hqb
    have HKK := Lib.hid hkeys
    clear hfw hk hqb hkeys
    by_cases h200 : 200 < s.size
    · go_wp2_with fail
      refine (alive_calls _).mono ?_
      rintro e w2 ⟨rfl, hb2⟩
      go_wp2
      go_ret
      exact ⟨rfl, hb1.trans (hb2.mono hb1.size)⟩
    · go_wp2_with fail
      refine QB.out.mono ?_
      rintro e w2 ⟨tb, v, rfl, ht, hb2⟩
      have B2 := hb1.trans (hb2.mono hb1.size)
      have HT := Lib.hid ht
      clear ht hb2
      go_wp2
      go_loopw [35] (fun u35 wr => ∃ j : Nat, u35 = n64 j ∧ j ≤ s.size + 1 ∧ TV w1.heap.size wr tb v (opsDo ops) ∧ Below w.heap.size w wr) (fun u35 _ => (s.size + 1 - intOf u35).toNat)
      case atStart => exact ⟨0, rfl, by omega, HT.out, B2⟩
      case round =>
        obtain ⟨j, rfl, hj, ht, hb⟩ := hrel
        have HTj := Lib.hid ht
        have HB := Lib.hid hb
        have hbs := hb.size
        clear ht hb B2 hb1
        by_cases hlt : j < s.size + 1
        · have hj0 : (0 : Int) ≤ (j : Int) := by omega
          have hj1 : (j : Int) ≤ (s.size : Int) := by omega
          have hpl : (p.take j).length ≤ 200 := by rw [List.length_take]; have := HSL.out; omega
          obtain ⟨t, htt⟩ : ∃ t, t = p.take j := ⟨_, rfl⟩
          have hst : s.extract 0 j = ⟨t.toArray⟩ := by rw [HS.out, extract_eq, htt]; simp
          rw [← htt] at hpl
          have HST := Lib.hid hst
          clear hst htt
          obtain ⟨gi, hgi⟩ := gotV_int (lget (opsDo ops) t)
          obtain ⟨is, his⟩ : ∃ is, is = (lget (opsDo ops) t).isSome := ⟨_, rfl⟩
          have q1 := tv_get wr HTj.out HKK.out (s.extract 0 j) t HST.out (by omega)
          have q2 := fun (W : World) (h : TV w1.heap.size W tb v (opsDo ops)) => tv_rget W h (by omega) (s.extract 0 j) t HST.out
          rw [hgi, ← his] at q1 q2
          have Q1 := Lib.hid q1
          have Q2 := Lib.hid q2
          clear q1 q2 hgi his
          go_wp2_with fail
          refine Q1.out.mono ?_
          rintro e w4 ⟨rfl, hb4⟩
          have ht4 := HTj.out.move hb4
          have HT4 := Lib.hid ht4
          have B4 := HB.out.trans (hb4.mono hbs)
          clear ht4 hb4
          go_wp2_with fail
          refine (Q2.out w4 HT4.out).mono ?_
          rintro e w' ⟨rfl, rfl⟩
          clear Q1 Q2
          have q3 := tv_longest w4 HT4.out HKK.out (s.extract 0 j) t HST.out (by omega)
          have Q3 := Lib.hid q3
          clear q3
          go_wp2_with fail
          refine Q3.out.mono ?_
          rintro e w5 ⟨o, ho, rfl, hb5⟩
          have ht5 := HT4.out.move hb5
          have HT5 := Lib.hid ht5
          have B5 := B4.trans (hb5.mono B4.size)
          clear ht5 hb5
          have q4 := tv_rlongest w5 HT5.out HKK.out (by omega) (s.extract 0 j) t HST.out (by omega)
          have Q4 := Lib.hid q4
          clear q4
          obtain ⟨sl, hsl⟩ : ∃ s : ByteArray, s = ⟨(lgB t o).toArray⟩ := ⟨_, rfl⟩
          rw [lit_of hsl]
          have HSLO := Lib.hid hsl
          have HO := Lib.hid ho
          clear hsl ho Q3
          go_wp2_with fail
          refine Q4.out.mono ?_
          rintro e w' ⟨o2, ho2, rfl, rfl⟩
          obtain rfl := ho2.one HO.out
          rw [lit_of HSLO.out]
          clear Q4 ho2
          cases o2 <;> cases is
          all_goals
            go_wp2
            go_roundw
            case rel => exact ⟨j + 1, by go_num, by omega, HT5.out, B5⟩
            case measure => simp [intOf]; omega
        · obtain rfl : j = s.size + 1 := by omega
          go_wp2_with fail
          refine (alive_calls _).mono ?_
          rintro e w3 ⟨rfl, hb3⟩
          go_wp2
          go_ret
          exact ⟨rfl, HB.out.trans (hb3.mono hbs)⟩
end Go.Proofs.Ytkpfendodmfeoaa
