import Derived.Test.YtkpfendodmfeoaaTl1
namespace Go.Proofs.Ytkpfendodmfeoaa
set_option linter.unusedVariables false
set_option linter.unusedSimpArgs false
open Go.RowKit
theorem put_keys {L : Nat} {l : Ents V} {k : Bs} {v : V} (h : KeysLe L l) (hk : k.length ≤ L) : KeysLe L (lput l k v) := fun q hq => by
  rcases lput_mem hq with e | e
  · exact h q e
  · rw [e]; exact hk
theorem drop_keys {L : Nat} {l : Ents V} {k : Bs} (h : KeysLe L l) : KeysLe L (ldrop l k) := fun q hq => h q (List.mem_filter.1 hq).1
theorem drop_le (l : Ents V) (k : Bs) : (ldrop l k).length ≤ l.length := List.length_filter_le _ _
set_option maxHeartbeats 1600000 in
set_option maxRecDepth 100000 in
theorem TrieSame_walk (w : World) (A : Option Addr) (c : Nat) (ops : List OpT) (hr : Rd w A (flatO ops)) (hA : ∀ a, A = some a → ops ≠ [] → a.block < w.heap.size) (hl : ops.length ≤ 140737488351232) (hk : ∀ o ∈ ops, o.key.length ≤ 140737488351232) (s : ByteArray) (hsz : s.size ≤ maxLen) :
    Calls Try.prog 9 #[.slice A ops.length c, .string s] w fun e w' => e = .returned (.bool true) ∧ Below w.heap.size w w' := by
  unfold maxLen at hsz
  obtain ⟨p, hs⟩ : ∃ l : Bs, s = ⟨l.toArray⟩ := ⟨s.data.toList, by cases s; rfl⟩
  have hsl : s.size = p.length := by rw [hs, str_of]
  have qf := few_calls w A c ops hr hA hl hk
  have QF := Lib.hid qf
  have HR := Lib.hid hr
  have HA := Lib.hid hA
  have HS := Lib.hid hs
  have HSL := Lib.hid hsl
  clear qf hr hA hk hs hsl
  go_enter Try.func9, Try.ntmps9
  go_wp2_with fail
  refine QF.out.mono ?_
  rintro e w1 ⟨rfl, hb1⟩
  cases hfw : fewB ops with
  | false =>
    clear hfw
    go_wp2_with fail
    refine (alive_calls _).mono ?_
    rintro e w2 ⟨rfl, hb2⟩
    go_wp2
    go_ret
    exact ⟨rfl, hb1.trans (hb2.mono hb1.size)⟩
  | true =>
    obtain ⟨h80, hk⟩ := few_of hfw
    have hqb := begin_calls w1 A c ops (HR.out.later hb1) (fun a ha hne => Nat.lt_of_lt_of_le (HA.out a ha hne) hb1.size) h80 hk
    have hkeys : KeysLe 9000 (opsDo ops) := opsDo_keys fun o ho => Nat.le_trans (hk o ho) (by omega)
    have hlen : (opsDo ops).length ≤ 80 := Nat.le_trans (opsDo_len _) h80
    have QB := Lib.hid hqb
    have HKK := Lib.hid hkeys
    clear hfw hk hqb hkeys
    by_cases h200 : 200 < s.size
    · go_wp2_with fail
      refine (alive_calls _).mono ?_
      rintro e w2 ⟨rfl, hb2⟩
      go_wp2
      go_ret
      exact ⟨rfl, hb1.trans (hb2.mono hb1.size)⟩
    · go_wp2_with fail
      refine QB.out.mono ?_
      rintro e w2 ⟨tb, v, rfl, ⟨fp, t1, t2, t3⟩, hb2⟩
      have B2 := hb1.trans (hb2.mono hb1.size)
      have hpl : p.length ≤ 200 := by have := HSL.out; omega
      have hK1 : KeysLe 10000 (opsDo ops) := fun q hq => by have := HKK.out q hq; omega
      have HK1 := Lib.hid hK1
      obtain ⟨L, hL⟩ : ∃ L, L = opsDo ops := ⟨_, rfl⟩
      rw [← hL] at t1 t3 hlen hK1
      have HK1 := Lib.hid hK1
      have HT1 := Lib.hid t1
      have HT3 := Lib.hid t3
      have HT2 := Lib.hid t2
      have hs2 := hb2.size
      clear hL t1 t2 t3 hK1 HKK hb2 QB QF
      go_wp2_with fail
      refine (TCopy_calls w2 tb L fp HT1.out 10000 (by omega) HK1.out (by omega)).mono ?_
      rintro e w3 ⟨tb2, fp2, rfl, c1, c2, hb3⟩
      have B3 := B2.trans (hb3.mono B2.size)
      have s1 : TV w1.heap.size w3 tb v L := ⟨fp, HT1.out.later hb3, HT2.out, HT3.out.later hb3⟩
      have s2 : TV w1.heap.size w3 tb2 v L := ⟨fp2, c1, fun b hb => Nat.le_trans hs2 (c2 b hb), HT3.out.later hb3⟩
      have hdis : ∀ b ∈ fp2, b ∉ fp := fun b hb hm => by have := HT1.out.lt b hm; have := c2 b hb; omega
      have S1 := Lib.hid s1
      have S2 := Lib.hid s2
      have C1 := Lib.hid c1
      have HB3 := Lib.hid hb3
      have HC2 := Lib.hid c2
      have HDIS := Lib.hid hdis
      clear s1 s2 c1 hb3 c2 hdis
      go_wp2_with fail
      refine (tv_nodes w3 S2.out (by omega)).mono ?_
      rintro e w4 ⟨n1, rfl, hn1, _, hb4⟩
      go_wp2_with fail
      refine (tv_nodes w4 (S1.out.move hb4) (by omega)).mono ?_
      rintro e w5 ⟨n2, rfl, hn2, _, hb5⟩
      obtain rfl := hn1.one hn2
      have D5 := hb4.trans (hb5.mono hb4.size)
      clear hn1 hn2
      go_wp2_with fail
      refine (tv_same w5 (S2.out.move D5) HK1.out (by omega) ⟨#[]⟩ [] rfl (by simp)).mono ?_
      rintro e w6 ⟨rfl, hb6⟩
      have D6 := D5.trans (hb6.mono D5.size)
      have E6 := B3.trans (D6.mono B3.size)
      have E26 := HB3.out.trans (D6.mono HB3.out.size)
      have T6 := HT1.out.later E26
      have U6 := C1.out.later D6
      have P6 := HT3.out.later E26
      have HE6 := Lib.hid E6
      have HT6 := Lib.hid T6
      have HU6 := Lib.hid U6
      have HP6 := Lib.hid P6
      have hz6 := E26.size
      have hz36 := D6.size
      have hz3 := HB3.out.size
      clear hb4 hb5 D5 hb6 E6 T6 U6 P6 S1 S2
      have q1 := TPut_calls w6 tb L fp HT6.out 10000 (by omega) HK1.out (by omega) s p HS.out (by omega) (-1)
      have Q1 := Lib.hid q1
      clear q1
      go_wp2_with fail
      refine Q1.out.mono ?_
      rintro e w7 ⟨rfl, hp7⟩
      obtain ⟨fp3, T7, N7, B7, F7, M7⟩ := post_tv hp7 (Nat.le_trans hs2 hz6) HT2.out
      have U7 := HU6.out.move fun b hb => F7.block b (HU6.out.lt b hb) (HDIS.out b hb)
      have P7 := HP6.out.put HT6.out F7
      have hd7 : ∀ b ∈ fp3, b ∉ fp2 := fun b hb hm => by
        rcases M7 b hb with e | e
        · exact HDIS.out b hm e
        · have := HU6.out.lt b hm; omega
      have HT7 := Lib.hid T7
      have HU7 := Lib.hid U7
      have HP7 := Lib.hid P7
      have HD7 := Lib.hid hd7
      have E7 : Below w.heap.size w w7 := HE6.out.trans (F7.below HE6.out.size fun k _ hk => Nat.le_trans hb1.size (HT2.out k hk))
      have hz7 := F7.size
      have HE7 := Lib.hid E7
      clear T7 U7 P7 hd7 hp7 Q1 E7 F7 M7 B7
      have q2 := TDrop_calls w7 tb2 L fp2 HU7.out 10000 (by omega) HK1.out (by omega) s p HS.out (by omega)
      have Q2 := Lib.hid q2
      clear q2
      go_wp2_with fail
      refine Q2.out.mono ?_
      rintro e w8 ⟨rfl, hp8⟩
      obtain ⟨fp4, U8, N8, B8, F8, M8⟩ := post_tv (N := w1.heap.size) hp8 (by omega) (fun b hb => Nat.le_trans hs2 (HC2.out b hb))
      have T8 := HT7.out.move fun b hb => F8.block b (HT7.out.lt b hb) (HD7.out b hb)
      have P8 := HP7.out.put HU7.out F8
      have E8 : Below w.heap.size w w8 := HE7.out.trans (F8.below HE7.out.size fun k _ hk => Nat.le_trans hb1.size (Nat.le_trans hs2 (HC2.out k hk)))
      have HT8 := Lib.hid T8
      have HU8 := Lib.hid U8
      have HP8 := Lib.hid P8
      have HE8 := Lib.hid E8
      have hz8 := F8.size
      have hri := HT6.out.rise
      have HRI := Lib.hid hri
      clear T8 U8 P8 hp8 Q2 E8 F8 M8 B8 hri
      go_wp2_with fail
      refine (alive_calls w8).mono ?_
      rintro e w9 ⟨rfl, hb9⟩
      have hz9 := hb9.size
      have q3 := rPut_calls w9 _ _ L (HP8.out.later hb9) (by omega) HRI.out s p HS.out (-1)
      have Q3 := Lib.hid q3
      clear q3
      go_wp2_with fail
      refine Q3.out.mono ?_
      rintro e w10 ⟨v2, rfl, hr10, hb10⟩
      have D10 := hb9.trans (hb10.mono hz9)
      have hz10 := hb10.size
      have k1 := put_keys (v := (-1 : V)) HK1.out (show p.length ≤ 10000 by omega)
      have k2 := lput_le L p (-1)
      have q4 := tv_same w10 (⟨fp3, HT8.out.later D10, N7, hr10.mono (by omega)⟩ : TV w1.heap.size w10 tb v2 _) k1 (by omega) ⟨#[]⟩ [] rfl (by simp)
      have Q4 := Lib.hid q4
      clear q4 hr10 Q3 k1 k2
      go_wp2_with fail
      refine Q4.out.mono ?_
      rintro e w11 ⟨rfl, hb11⟩
      have D11 := D10.trans (hb11.mono D10.size)
      have hz11 := hb11.size
      have q5 := rDrop_calls w11 _ _ L (HP8.out.later D11) (by omega) s p HS.out
      have Q5 := Lib.hid q5
      clear q5 Q4
      go_wp2_with fail
      refine Q5.out.mono ?_
      rintro e w12 ⟨v3, rfl, hr12, hb12⟩
      have D12 := D11.trans (hb12.mono D11.size)
      have q6 := tv_same w12 (⟨fp4, HU8.out.later D12, N8, hr12.mono (by omega)⟩ : TV w1.heap.size w12 tb2 v3 _) (drop_keys HK1.out) (by have := drop_le L p; omega) ⟨#[]⟩ [] rfl (by simp)
      have Q6 := Lib.hid q6
      clear q6 hr12 Q5
      go_wp2_with fail
      refine Q6.out.mono ?_
      rintro e w13 ⟨rfl, hb13⟩
      have D13 := D12.trans (hb13.mono D12.size)
      go_wp2
      go_ret
      exact ⟨rfl, HE8.out.trans (D13.mono HE8.out.size)⟩
end Go.Proofs.Ytkpfendodmfeoaa
