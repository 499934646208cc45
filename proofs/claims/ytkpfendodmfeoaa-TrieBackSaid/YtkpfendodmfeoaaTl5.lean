import Derived.Test.YtkpfendodmfeoaaTl4
import Derived.Test.YtkpfendodmfeoaaTp7
namespace Go.Proofs.Ytkpfendodmfeoaa
set_option linter.unusedVariables false
set_option linter.unusedSimpArgs false
open Go.RowKit
theorem gotV_int' (o : Option V) : ∃ n : Int, gotV encV o = .int .i64 n := by
  cases o with
  | none => exact ⟨0, rfl⟩
  | some v => exact ⟨v, rfl⟩
theorem tv_rget' (w : World) {N tb : Nat} {v : Value} {l : Ents V} (h : TV N w tb v l) (hN : l.length ≤ 10000) (s : ByteArray) (k : Bs) (hs : s = ⟨k.toArray⟩) :
    Calls Try.prog 22 #[v, .string s] w fun e w' => e = .returned (.tuple #[gotV encV (lget l k), .bool (lget l k).isSome]) ∧ w = w' := by
  obtain ⟨fp, h1, h2, h3⟩ := h
  exact rGet_calls w N v l h3 (by omega) s k hs
theorem lget_lput_self : (l : Ents V) → (k : Bs) → (v : V) → (lget (lput l k v) k).isSome = true
  | [], k, v => by simp [lput, lget]
  | (x, u) :: l, k, v => by
      unfold lput
      split
      · unfold lget
        split
        · rfl
        · exact lget_lput_self l k v
      · split <;> simp [lget]
set_option maxHeartbeats 1600000 in
set_option maxRecDepth 100000 in
theorem TrieBack_walk (w : World) (A : Option Addr) (c : Nat) (ops : List OpT) (hr : Rd w A (flatO ops)) (hA : ∀ a, A = some a → ops ≠ [] → a.block < w.heap.size) (hl : ops.length ≤ 140737488351232) (hk : ∀ o ∈ ops, o.key.length ≤ 140737488351232) (s : ByteArray) (hsz : s.size ≤ maxLen) :
    Calls Try.prog 7 #[.slice A ops.length c, .string s] w fun e w' => e = .returned (.bool true) ∧ Below w.heap.size w w' := by
  unfold maxLen at hsz
  obtain ⟨p, hs⟩ : ∃ l : Bs, s = ⟨l.toArray⟩ := ⟨s.data.toList, by cases s; rfl⟩
  have hsl : s.size = p.length := by rw [hs, str_of]
  have qf := few_calls w A c ops hr hA hl hk
  have QF := Lib.hid qf
  have HR := Lib.hid hr
  have HA := Lib.hid hA
  have HS := Lib.hid hs
  have HSL := Lib.hid hsl
  clear qf hr hA hk hs hsl
  go_enter Try.func7, Try.ntmps7
  go_wp2_with fail
  refine QF.out.mono ?_
  rintro e w1 ⟨rfl, hb1⟩
  cases hfw : fewB ops with
  | false =>
    clear hfw
    go_wp2_with fail
    refine (alive_calls _).mono ?_
    rintro e w2 ⟨rfl, hb2⟩
    go_wp2
    go_ret
    exact ⟨rfl, hb1.trans (hb2.mono hb1.size)⟩
  | true =>
    obtain ⟨h80, hk⟩ := few_of hfw
    have hqb := begin_calls w1 A c ops (HR.out.later hb1) (fun a ha hne => Nat.lt_of_lt_of_le (HA.out a ha hne) hb1.size) h80 hk
    have hkeys : KeysLe 9000 (opsDo ops) := opsDo_keys fun o ho => Nat.le_trans (hk o ho) (by omega)
    have hlen : (opsDo ops).length ≤ 80 := Nat.le_trans (opsDo_len _) h80
    have QB := Lib.hid hqb
    have HKK := Lib.hid hkeys
    clear hfw hk hqb hkeys
    by_cases h200 : 200 < s.size
    · go_wp2_with fail
      refine (alive_calls _).mono ?_
      rintro e w2 ⟨rfl, hb2⟩
      go_wp2
      go_ret
      exact ⟨rfl, hb1.trans (hb2.mono hb1.size)⟩
    · go_wp2_with fail
      refine QB.out.mono ?_
      rintro e w2 ⟨tb, v, rfl, ⟨fp, t1, t2, t3⟩, hb2⟩
      have B2 := hb1.trans (hb2.mono hb1.size)
      have hpl : p.length ≤ 200 := by have := HSL.out; omega
      have hK1 : KeysLe 10000 (opsDo ops) := fun q hq => by have := HKK.out q hq; omega
      have HK1 := Lib.hid hK1
      obtain ⟨L, hL⟩ : ∃ L, L = opsDo ops := ⟨_, rfl⟩
      rw [← hL] at t1 t3 hlen hK1
      have HK1 := Lib.hid hK1
      have HT1 := Lib.hid t1
      have HT3 := Lib.hid t3
      have HT2 := Lib.hid t2
      have hs2 := hb2.size
      clear hL t1 t2 t3 hK1 HKK hb2 QB QF
      have hri := HT1.out.rise
      have tv2 : TV w1.heap.size w2 tb v L := ⟨fp, HT1.out, HT2.out, HT3.out⟩
      have HTV2 := Lib.hid tv2
      clear tv2
      obtain ⟨A2, c2, hv⟩ := tv_sl HTV2.out
      subst hv
      go_wp2_with fail
      refine (tv_nodes w2 HTV2.out (by omega)).mono ?_
      rintro e w3 ⟨n1, rfl, hn1, hn2, hb3⟩
      have hn3 : ¬ (2 * (L.length : Int) + 1 < (n1 : Int)) := by omega
      have HN1 := Lib.hid hn1
      clear hn1
      have B3 := B2.trans (hb3.mono B2.size)
      have tv3 := HTV2.out.move hb3
      have HT1' := HT1.out.later hb3
      have HTV3 := Lib.hid tv3
      have HT1 := Lib.hid HT1'
      have hz3 := hb3.size
      clear tv3 hb3 HT1' HTV2 HT3
      obtain ⟨gi, hgi⟩ := gotV_int' (lget L p)
      have q2 := tv_rget' w3 HTV3.out (by omega) s p HS.out
      cases hg : lget L p with
      | some u =>
        rw [hg] at q2 hgi
        rw [hgi] at q2
        have Q2 := Lib.hid q2
        clear q2 hgi hg
        go_wp2_with fail
        refine Q2.out.mono ?_
        rintro e w' ⟨rfl, rfl⟩
        go_wp2_with fail
        refine (alive_calls _).mono ?_
        rintro e w4 ⟨rfl, hb4⟩
        go_wp2
        go_ret
        exact ⟨rfl, B3.trans (hb4.mono B3.size)⟩
      | none =>
        rw [hg] at q2 hgi
        rw [hgi] at q2
        have Q2 := Lib.hid q2
        have q3 := TPut_calls w3 tb L fp HT1.out 10000 (by omega) HK1.out (by omega) s p HS.out (by omega) 7
        rw [hg] at q3
        have hno := lget_none_of hri hg
        have hdl : ldrop (lput L p 7) p = L := ldrop_lput hno
        have Q3 := Lib.hid q3
        have HNO := Lib.hid hno
        have HDL := Lib.hid hdl
        clear q2 q3 hgi hg hno hdl
        go_wp2_with fail
        refine Q2.out.mono ?_
        rintro e w' ⟨rfl, rfl⟩
        clear Q2
        go_wp2_with fail
        refine Q3.out.mono ?_
        rintro e w4 ⟨rfl, hp4⟩
        obtain ⟨fp3, T4, N4, B4, F4, M4⟩ := post_tv (N := w1.heap.size) hp4 (by omega) HT2.out
        obtain ⟨fpv, _, _, P3⟩ := HTV3.out
        have P4 := P3.put HT1.out F4
        have E4 := B3.trans (B4.mono hb1.size)
        have k2 := lput_le L p (7 : V)
        have hk4 := put_keys (v := (7 : V)) HK1.out (show p.length ≤ 10000 by omega)
        have HK4 := Lib.hid hk4
        have HT4 := Lib.hid T4
        have HP4 := Lib.hid P4
        have hz4 := F4.size
        clear hp4 Q3 F4 M4 T4 P4 P3 B4 hk4
        go_wp2_with fail
        refine (TNodes_calls w4 tb _ fp3 HT4.out (by omega)).mono ?_
        rintro e w5 ⟨n2, rfl, hn4, _, hF5⟩
        obtain ⟨l1, l2⟩ := nodes_put (k := p) (v := (7 : V)) (fun q hq => lput_mem hq) (fun q hq => mem_lput hq (HNO.out q hq)) HN1.out hn4
        have hb5 := hF5.below (Nat.le_refl _) fun _ _ h => h.elim
        have T5 := HT4.out.later hb5
        have P5 := HP4.out.later hb5
        have E5 := E4.trans (hb5.mono E4.size)
        have HT5 := Lib.hid T5
        have HP5 := Lib.hid P5
        have hz5 := hb5.size
        have q6 := TDrop_calls w5 tb (lput L p 7) fp3 T5 10000 (by omega) HK4.out (by omega) s p HS.out (by omega)
        have hg2 : (lget (lput L p 7) p).isSome = true := lget_lput_self _ _ _
        rw [HDL.out, hg2] at q6
        have Q6 := Lib.hid q6
        clear q6 hg2 T5 P5 hb5 hF5 hn4 HT4 HP4
        have a1 : decide ((n1 : Int) ≤ (n2 : Int)) = true := by simp; omega
        have a2 : decide ((n2 : Int) ≤ (n1 : Int) + 2) = true := by simp; omega
        go_wp2_with fail
        refine Q6.out.mono ?_
        rintro e w6 ⟨rfl, hp6⟩
        obtain ⟨fp4, T6, N6, B6, F6, M6⟩ := post_tv (N := w1.heap.size) hp6 (by omega) N4
        have P6 := HP5.out.put HT5.out F6
        have E6 := E5.trans (B6.mono hb1.size)
        have tv6 : TV w1.heap.size w6 tb (.slice A2 L.length c2) L := ⟨fp4, T6, N6, P6⟩
        have HTV6 := Lib.hid tv6
        clear tv6 T6 P6 F6 M6 B6 hp6 Q6 HT5 HP5
        go_wp2_with fail
        refine (alive_calls _).mono ?_
        rintro e w7 ⟨rfl, hb7⟩
        have HTV7 := Lib.hid (HTV6.out.move hb7)
        have E7 := E6.trans (hb7.mono E6.size)
        go_wp2_with fail
        refine (tv_nodes w7 HTV7.out (by omega)).mono ?_
        rintro e w8 ⟨n3, rfl, hn8, _, hb8⟩
        obtain rfl := hn8.one HN1.out
        have HTV8 := Lib.hid (HTV7.out.move hb8)
        have E8 := E7.trans (hb8.mono E7.size)
        clear hn8
        go_wp2_with fail
        refine (tv_same w8 HTV8.out HK1.out (by omega) ⟨#[]⟩ [] rfl (by simp)).mono ?_
        rintro e w9 ⟨rfl, hb9⟩
        go_wp2
        go_ret
        exact ⟨rfl, E8.trans (hb9.mono E8.size)⟩
end Go.Proofs.Ytkpfendodmfeoaa
