import Derived.Test.YtkpfendodmfeoaaTl1
import Derived.Deep.RegionHeld3
namespace Go.Proofs.Ytkpfendodmfeoaa
set_option linter.unusedVariables false
set_option linter.unusedSimpArgs false
open Go.RowKit
def pk (ks : List Bs) : Ents V := ks.foldl (fun l k => lput l k 1) []
theorem pk_snoc (ks : List Bs) (k : Bs) : pk (ks ++ [k]) = lput (pk ks) k 1 := by simp [pk]
theorem lput_mem_iff {l : Ents V} {k : Bs} {q : Bs × V} (h1 : ∀ x ∈ l, x.2 = 1) : q ∈ lput l k 1 ↔ q ∈ l ∨ q = (k, 1) := by
  induction l with
  | nil => simp [lput]
  | cons p l ih =>
    obtain ⟨x, u⟩ := p
    have hu : u = 1 := h1 (x, u) (List.mem_cons_self ..)
    have ih := ih fun x hx => h1 x (List.mem_cons_of_mem _ hx)
    unfold lput
    split
    · simp [ih, or_assoc]
    · split
      · rename_i hx
        subst hx; subst hu
        constructor
        · intro h
          rcases List.mem_cons.1 h with e | e
          · exact .inr e
          · exact .inl (List.mem_cons_of_mem _ e)
        · rintro (h | h)
          · exact h
          · rw [h]; exact List.mem_cons_self ..
      · constructor
        · intro h
          rcases List.mem_cons.1 h with e | e
          · exact .inr e
          · exact .inl e
        · rintro (h | h)
          · exact List.mem_cons_of_mem _ h
          · rw [h]; exact List.mem_cons_self ..
theorem fold_mem : (ks : List Bs) → (l : Ents V) → (∀ x ∈ l, x.2 = 1) → (∀ q, q ∈ ks.foldl (fun l k => lput l k 1) l ↔ q ∈ l ∨ ∃ k ∈ ks, q = (k, 1))
  | [], l, _, q => by simp
  | k :: ks, l, h, q => by
      have h2 : ∀ x ∈ lput l k 1, x.2 = 1 := fun x hx => by
        rcases (lput_mem_iff h).1 hx with e | e
        · exact h x e
        · rw [e]
      rw [List.foldl_cons, fold_mem ks (lput l k 1) h2 q, lput_mem_iff h]
      constructor
      · rintro ((a | a) | ⟨k2, a, b⟩)
        · exact .inl a
        · exact .inr ⟨k, List.mem_cons_self .., a⟩
        · exact .inr ⟨k2, List.mem_cons_of_mem _ a, b⟩
      · rintro (a | ⟨k2, a, b⟩)
        · exact .inl (.inl a)
        · rcases List.mem_cons.1 a with e | e
          · exact .inl (.inr (by rw [b, e]))
          · exact .inr ⟨k2, e, b⟩
theorem rise_one : {l m : Ents V} → Rise l → Rise m → (∀ q, q ∈ l ↔ q ∈ m) → l = m
  | [], [], _, _, _ => rfl
  | [], q :: m, _, _, h => absurd ((h q).2 (List.mem_cons_self ..)) (by simp)
  | q :: l, [], _, _, h => absurd ((h q).1 (List.mem_cons_self ..)) (by simp)
  | q :: l, p :: m, h1, h2, h => by
      obtain ⟨a1, a2⟩ := List.pairwise_cons.1 h1
      obtain ⟨b1, b2⟩ := List.pairwise_cons.1 h2
      have e : q = p := by
        rcases List.mem_cons.1 ((h q).1 (List.mem_cons_self ..)) with e | e
        · exact e
        · rcases List.mem_cons.1 ((h p).2 (List.mem_cons_self ..)) with e2 | e2
          · exact e2.symm
          · have c1 := b1 q e
            have c2 := a1 p e2
            rw [ltB_asym c1] at c2; cases c2
      subst e
      rw [rise_one a2 b2 fun x => ?_]
      have hx := h x
      constructor
      · intro hm
        rcases List.mem_cons.1 (hx.1 (List.mem_cons_of_mem _ hm)) with e | e
        · have := a1 x hm; rw [e, ltB_irr] at this; cases this
        · exact e
      · intro hm
        rcases List.mem_cons.1 (hx.2 (List.mem_cons_of_mem _ hm)) with e | e
        · have := b1 x hm; rw [e, ltB_irr] at this; cases this
        · exact e
theorem pk_mem (ks : List Bs) (q : Bs × V) : q ∈ pk ks ↔ ∃ k ∈ ks, q = (k, 1) := by
  unfold pk
  rw [fold_mem ks [] (fun x h => by cases h)]
  simp
theorem pk_keys {L : Nat} {ks : List Bs} (h : ∀ k ∈ ks, k.length ≤ L) : KeysLe L (pk ks) := fun q hq => by
  obtain ⟨k, a, rfl⟩ := (pk_mem ks q).1 hq
  exact h k a
theorem pk_fold_len : (ks : List Bs) → (l : Ents V) → (ks.foldl (fun l k => lput l k 1) l).length ≤ l.length + ks.length
  | [], l => by simp
  | k :: ks, l => by
      have h1 := pk_fold_len ks (lput l k 1)
      have h2 := lput_le l k (1 : V)
      simp only [List.foldl_cons, List.length_cons]; omega
theorem pk_len (ks : List Bs) : (pk ks).length ≤ ks.length := by simpa [pk] using pk_fold_len ks []
theorem row_not_in {w : World} {tb : Nat} {m : Ents V} {fp : List Nat} {B : Nat} {E : TypeId} {sz n : Nat} {v : Value} {xs : List Value} (h : Tr w tb m fp) (hr : Row w B E sz v n xs) (h1 : E ≠ 57) (h2 : E ≠ 54) (h3 : E ≠ 59) : ∀ g, v.ownBlock = some g → g ∉ fp := by
  intro g hg
  rcases hr.2 with ⟨rfl, _⟩ | ⟨g', off, cap, cur, rfl, _, h', _⟩
  · simp [Value.ownBlock] at hg
  · obtain rfl : g' = g := by simpa [Value.ownBlock] using hg
    exact h.not_in h' h1 h2 h3
set_option maxHeartbeats 3200000 in
set_option maxRecDepth 100000 in
theorem TrieOrder_walk (w : World) (A : Option Addr) (c : Nat) (ks : List Bs) (hr : Rd w A (ks.map str)) (hA : ∀ a, A = some a → ks ≠ [] → a.block < w.heap.size) (hlc : ks.length ≤ c) (hl : c ≤ 140737488351232) (hk : ∀ k ∈ ks, k.length ≤ 140737488351232) (z : Int) (hz1 : -9223372036854775808 ≤ z) (hz2 : z ≤ 9223372036854775807) :
    Calls Try.prog 3 #[.slice A ks.length c, .int .i64 z] w fun e w' => e = .returned (.bool true) ∧ Below w.heap.size w w' := by
  have HR := Lib.hid hr
  have HA := Lib.hid hA
  have HK := Lib.hid hk
  clear hr hA hk
  by_cases h40 : 40 < ks.length
  · have d1 : decide ((40 : Int) < (ks.length : Int)) = true := by simp; omega
    go_enter Try.func3, Try.ntmps3
    go_wp2_with fail
    refine (alive_calls _).mono ?_
    rintro e w2 ⟨rfl, hb2⟩
    go_wp2
    go_ret
    exact ⟨rfl, hb2⟩
  have d1 : decide ((40 : Int) < (ks.length : Int)) = false := by simp; omega
  by_cases hz : z < 0
  · have d2 : decide (z < 0) = true := by simp; omega
    go_enter Try.func3, Try.ntmps3
    go_wp2_with fail
    refine (alive_calls _).mono ?_
    rintro e w2 ⟨rfl, hb2⟩
    go_wp2
    go_ret
    exact ⟨rfl, hb2⟩
  obtain ⟨k, rfl⟩ := Int.eq_ofNat_of_zero_le (show 0 ≤ z by omega)
  have d2 : decide ((k : Int) < 0) = false := by simp
  by_cases hzl : ks.length < k
  · have d3 : decide ((ks.length : Int) < (k : Int)) = true := by simp; omega
    have d3' : decide (ks.length < k) = true := by simp; omega
    go_enter Try.func3, Try.ntmps3
    go_wp2_with fail
    refine (alive_calls _).mono ?_
    rintro e w2 ⟨rfl, hb2⟩
    go_wp2
    go_ret
    exact ⟨rfl, hb2⟩
  have d3 : decide ((ks.length : Int) < (k : Int)) = false := by simp; omega
  have d3' : decide (ks.length < k) = false := by simp; omega
  clear hz hz1 hz2
  go_enter Try.func3, Try.ntmps3
  go_wp2_with fail
  refine (TNew_calls _).mono ?_
  rintro e w1 ⟨ta, f0, rfl, hT0, hf0, hb1⟩
  go_wp2_with fail
  refine (TNew_calls _).mono ?_
  rintro e w2 ⟨tb, fb, rfl, hTb, hfb, hb2⟩
  have B2 := hb1.trans (hb2.mono hb1.size)
  have hT2 := hT0.later hb2
  have hdis : ∀ b ∈ f0, b ∉ fb := fun b hb hm => by have := hT0.lt b hb; have := hfb b hm; omega
  have hfN : ∀ b ∈ fb, w.heap.size ≤ b := fun b hb => Nat.le_trans hb1.size (hfb b hb)
  have hTbl := hTb.lt
  have HTB := Lib.hid hTb
  have HFN := Lib.hid hfN
  have HTBL := Lib.hid hTbl
  clear hT0 hb1 hb2 hfb hTb hfN hTbl
  go_wp2
  go_loopw [7, 36] (fun u7 u36 wr => ∃ (j : Nat) (fa : List Nat), u36 = n64 j ∧ j ≤ ks.length ∧ (∀ k ∈ ks.take j, k.length ≤ 100) ∧ Tr wr ta (pk (ks.take j)) fa ∧ (∀ b ∈ fa, w.heap.size ≤ b ∧ b ∉ fb) ∧ PR wr w.heap.size u7 (pk (ks.take j)) ∧ Tr wr tb [] fb ∧ Below w.heap.size w wr) (fun _ u36 _ => (ks.length - intOf u36).toNat)
  case atStart => exact ⟨0, f0, rfl, Nat.zero_le _, by simp, hT2, fun b hb => ⟨hf0 b hb, hdis b hb⟩, PR.nil _ _, HTB.out, B2⟩
  case round =>
    obtain ⟨j, fa, rfl, hj, hsh, ha, hfa, hp, htb, hb⟩ := hrel
    have HSH := Lib.hid hsh
    have HTA := Lib.hid ha
    have HFA := Lib.hid hfa
    have HP := Lib.hid hp
    have HTB2 := Lib.hid htb
    have HB := Lib.hid hb
    have hbs := hb.size
    clear hsh ha hfa hp htb hb hT2 hdis hf0 B2
    by_cases hlt : j < ks.length
    · obtain ⟨q, hq⟩ : ∃ q, ks[j]? = some q := ⟨_, List.getElem?_eq_getElem hlt⟩
      have hRw : Rd wr A (ks.map str) := HR.out.below HB.out fun a ha _ => HA.out a ha (by intro e; subst e; simp at hlt)
      obtain ⟨g, off, rfl, c0⟩ := hRw j (str q) (by rw [List.getElem?_map, hq]; rfl)
      obtain ⟨sq, hsq⟩ : ∃ s : ByteArray, s = ⟨q.toArray⟩ := ⟨_, rfl⟩
      rw [lit_of hsq] at c0
      have hsz : sq.size = q.length := by rw [hsq, str_of]
      have hq4 := HK.out q (List.mem_of_getElem? hq)
      have hjl : (j : Int) < (ks.length : Int) := by omega
      by_cases h100 : 100 < sq.size
      · have d4 : decide ((100 : Int) < (sq.size : Int)) = true := by simp; omega
        clear hRw hq hsq hsz
        go_wp2_with fail
        refine (alive_calls _).mono ?_
        rintro e w3 ⟨rfl, hb3⟩
        go_wp2
        go_ret
        exact ⟨rfl, HB.out.trans (hb3.mono hbs)⟩
      · have d4 : decide ((100 : Int) < (sq.size : Int)) = false := by simp; omega
        have hql : q.length ≤ 100 := by omega
        have htk : pk (ks.take (j + 1)) = lput (pk (ks.take j)) q 1 := by rw [List.take_add_one, hq]; exact pk_snoc _ _
        have hlen : (pk (ks.take j)).length ≤ 40 := Nat.le_trans (pk_len _) (by rw [List.length_take]; omega)
        have hkeys : KeysLe 10000 (pk (ks.take j)) := pk_keys fun k hk => by have := HSH.out k hk; omega
        have hsh2 : ∀ k ∈ ks.take (j + 1), k.length ≤ 100 := fun k hk => by
          rw [List.take_add_one, hq] at hk
          rcases List.mem_append.1 hk with e | e
          · exact HSH.out k e
          · have : k = q := by simpa using e
            rw [this]; exact hql
        have hri := HTA.out.rise
        have q1 := TPut_calls wr ta _ fa HTA.out 10000 (by omega) hkeys (by omega) sq q hsq (by omega) 1
        have q2 := fun (W : World) (h : PR W w.heap.size u7 (pk (ks.take j))) => rPut_calls W _ u7 _ h (by omega) hri sq q hsq 1
        rw [← htk] at q1 q2
        have Q1 := Lib.hid q1
        have Q2 := Lib.hid q2
        have HSH2 := Lib.hid hsh2
        clear hRw hq hsq hsz q1 q2 htk hkeys hri hsh2 HSH
        go_wp2_with fail
        refine Q1.out.mono ?_
        rintro e w3 ⟨rfl, hp3⟩
        obtain ⟨fa3, T3, N3, B3, F3, M3⟩ := post_tv hp3 hbs (fun b hb => (HFA.out b hb).1)
        have hno3 : ∀ b ∈ fa3, b ∉ fb := fun b hb hm => by
          rcases M3 b hb with e | e
          · exact (HFA.out b e).2 hm
          · have := HTB2.out.lt b hm; omega
        have TB3 := HTB2.out.move fun b hb => F3.block b (HTB2.out.lt b hb) fun hm => (HFA.out b hm).2 hb
        have P3 := HP.out.put HTA.out F3
        have E3 := HB.out.trans B3
        have HT3 := Lib.hid T3
        have HTB3 := Lib.hid TB3
        have HP3 := Lib.hid P3
        have HN3 := Lib.hid N3
        have HNO := Lib.hid hno3
        have hz3 := F3.size
        clear T3 TB3 P3 N3 hno3 M3 B3 F3 hp3 Q1
        go_wp2_with fail
        refine (Q2.out w3 HP3.out).mono ?_
        rintro e w4 ⟨v4, rfl, hr4, hb4⟩
        have T4 := HT3.out.later hb4
        have TB4 := HTB3.out.later hb4
        have E4 := E3.trans (hb4.mono E3.size)
        have P4 : PR w4 w.heap.size v4 _ := hr4.mono (by omega)
        have HT4 := Lib.hid T4
        have HTB4 := Lib.hid TB4
        have HP4 := Lib.hid P4
        clear T4 TB4 P4 hr4 hb4
        go_wp2
        go_roundw
        case rel => exact ⟨j + 1, fa3, by go_num, by omega, HSH2.out, HT4.out, fun b hb => ⟨HN3.out b hb, HNO.out b hb⟩, HP4.out, HTB4.out, E4⟩
        case measure => simp [intOf]; omega
    · obtain rfl : j = ks.length := by omega
      have hsh := HSH.out
      have ta' := HTA.out
      have pp := HP.out
      rw [List.take_length] at hsh ta' pp
      have hRw : Rd wr A (ks.map str) := HR.out.below HB.out fun a ha hne => HA.out a ha (by intro e; subst e; simp at hne)
      have HS2 := Lib.hid hsh
      have HA2 := Lib.hid ta'
      have HP2 := Lib.hid pp
      have HRW := Lib.hid hRw
      clear hsh ta' pp hRw HSH HTA HP HR
      have hk0 : (0 : Int) ≤ (k : Int) := by omega
      have hk1 : (k : Int) ≤ (ks.length : Int) := by omega
      have hkc : (k : Int) ≤ (c : Int) := by omega
      have hlc2 : (ks.length : Int) ≤ (c : Int) := by omega
      obtain ⟨A1, hA1⟩ : ∃ A1, A1 = (if c = k then A else A.map (fun x => x.add k)) := ⟨_, rfl⟩
      have rd1 : ∀ W, Below wr.heap.size wr W → Rd W A1 ((ks.drop k).map str) := fun W h => by
        have := (HRW.out.later h).drop k c (by simp; omega)
        rw [hA1, List.map_drop]; exact this
      have rd2 : ∀ W, Below wr.heap.size wr W → Rd W A ((ks.take k).map str) := fun W h => by
        have := (HRW.out.later h).take k
        rw [List.map_take]; exact this
      have l1 : ((ks.drop k).map str).length = (ks.length - k) * 1 := by simp
      have l2 : ((ks.take k).map str).length = k * 1 := by simp; omega
      have o1 : ∀ u ∈ (ks.drop k).map str, u.oneCell' = true := fun u hu => by obtain ⟨x, _, rfl⟩ := List.mem_map.1 hu; rfl
      have o2 : ∀ u ∈ (ks.take k).map str, u.oneCell' = true := fun u hu => by obtain ⟨x, _, rfl⟩ := List.mem_map.1 hu; rfl
      have O1 := Lib.hid o1
      have O2 := Lib.hid o2
      have R1 := Lib.hid rd1
      have R2 := Lib.hid rd2
      have L1 := Lib.hid l1
      have L2 := Lib.hid l2
      have hb0 : Below wr.heap.size wr (wr.drew.alloc (.cells #[] 9)) := ((Below.refl _ wr).drew).alloc (Nat.le_refl _) _
      have HB0 := Lib.hid hb0
      clear rd1 rd2 l1 l2 hb0 o1 o2
      by_cases hck : c = k
      · rw [if_pos hck] at hA1
        obtain rfl : k = c := hck.symm
        have l0 : ((ks.drop k).map str).length = 0 * 1 := by simp; omega
        have L0 := Lib.hid l0
        clear l0
        have HA1 := Lib.hid hA1
        clear hA1
        go_wp2_with fail
        go_region_held3 (fun w' => Below wr.heap.size wr w') (first
          | exact C8
          | exact C7
          | exact HB0.out
          | go_grown) (first
          | (refine step_append_row _ (by rfl) _ _ _ (by rfl) wr.heap.size 9 1 16 _ Try.underlying22 Try.info_str rfl (by decide) (.slice (some ⟨wr.heap.size, 0, none⟩) 0 0) 0 [] (by rfl) (Row.new _ #[] _ _ _ _ (by simp) (by simp [maxLen]) (by simp)) A 0 0 ((ks.drop k).map str) (by rfl) L0.out (HA1.out ▸ R1.out _ (by go_grown)) O1.out (by omega) (by simp only [maxLen]; omega) (by simp) ?_; intro A7 c7 w7 hrow7 hg7 hb7; have C7 : Below wr.heap.size wr w7 := Below.grown (by go_grown) hg7 (by simp) (fun j e => by simp [Value.ownBlock] at e; omega))
          | (refine step_append_row _ (by rfl) _ _ _ (by rfl) wr.heap.size 9 1 16 _ Try.underlying22 Try.info_str rfl (by decide) (.slice A7 (0 + 0) c7) _ _ (by rfl) hrow7 A k k ((ks.take k).map str) (by rfl) L2.out (R2.out _ C7) O2.out (by omega) (by simp only [maxLen]; omega) C7.size ?_; intro A8 c8 w8 hrow8 hg8 hb8; have C8 : Below wr.heap.size wr w8 := Below.grown C7 hg8 C7.size (fun j e => (hrow7.lt _ e).1)))
        have hn1 : 0 + 0 + k = ks.length := by omega
        rw [hn1] at hrow8 ⊢
        rw [show (0 + 0 : Nat) = 0 from rfl]
        have hrow9 : Row w8 wr.heap.size 9 1 (.slice A8 ks.length c8) ks.length ((ks.drop k ++ ks.take k).map str) := by rw [List.map_append]; simpa using hrow8
        obtain ⟨ks2, hks2⟩ : ∃ m, m = ks.drop k ++ ks.take k := ⟨_, rfl⟩
        rw [← hks2] at hrow9
        have hl2 : ks2.length = ks.length := by rw [hks2]; simp; omega
        have hmem : ∀ x, x ∈ ks2 ↔ x ∈ ks := fun x => by
          rw [hks2, List.mem_append]
          constructor
          · rintro (h | h)
            · exact List.mem_of_mem_drop h
            · exact List.mem_of_mem_take h
          · intro h
            rw [← List.take_append_drop k ks] at h
            rcases List.mem_append.1 h with h | h
            · exact .inr h
            · exact .inl h
        have E8 : Below w.heap.size w w8 := HB.out.trans (C8.mono hbs)
        have T8 := HA2.out.later C8
        have TB8 := HTB2.out.later C8
        have P8 := HP2.out.later C8
        have R8 := hrow9.mono hbs
        have hfab : ∀ b ∈ fb, w.heap.size ≤ b ∧ b ∉ fa := fun b hb => ⟨HFN.out b hb, fun hm => (HFA.out b hm).2 hb⟩
        have HL2 := Lib.hid hl2
        have HMEM := Lib.hid hmem
        have H8 := Lib.hid (And.intro T8 (And.intro TB8 (And.intro P8 (And.intro R8 (And.intro E8 hfab)))))
        clear hrow7 hg7 hb7 hrow8 hg8 hb8 C7 C8 hks2 hl2 hmem E8 T8 TB8 P8 R8 hfab hrow9 hn1 HA1
        go_wp2_with fail
        go_loopw [61] (fun u61 wq => ∃ (j : Nat) (fb2 : List Nat), u61 = n64 j ∧ j ≤ ks.length ∧ Tr wq tb (pk (ks2.take j)) fb2 ∧ (∀ b ∈ fb2, w.heap.size ≤ b ∧ b ∉ fa) ∧ Tr wq ta (pk ks) fa ∧ PR wq w.heap.size u7 (pk ks) ∧ Row wq w.heap.size 9 1 (.slice A8 ks.length c8) ks.length (ks2.map str) ∧ Below w.heap.size w wq) (fun u61 _ => (ks.length - intOf u61).toNat)
        case atStart => exact ⟨0, fb, rfl, Nat.zero_le _, H8.out.2.1, H8.out.2.2.2.2.2, H8.out.1, H8.out.2.2.1, H8.out.2.2.2.1, H8.out.2.2.2.2.1⟩
        case round =>
          obtain ⟨j, fb2, rfl, hj2, htb, hfb2, hta, hp, hrw, hb⟩ := hrel
          have HTB3 := Lib.hid htb
          have HTA3 := Lib.hid hta
          have HFB2 := Lib.hid hfb2
          have HP3 := Lib.hid hp
          have HRW3 := Lib.hid hrw
          have HB3 := Lib.hid hb
          have hbs3 := hb.size
          clear htb hta hfb2 hp hrw hb
          by_cases hlt2 : j < ks.length
          · obtain ⟨q, hq⟩ : ∃ q, ks2[j]? = some q := ⟨_, List.getElem?_eq_getElem (by rw [HL2.out]; exact hlt2)⟩
            obtain ⟨A9, c9, hv9, hnc9, _, hrd9, hA9⟩ := HRW3.out.rd
            cases hv9
            obtain ⟨g, off, rfl, c0⟩ := hrd9 j (str q) (by rw [List.getElem?_map, hq]; rfl)
            obtain ⟨sq, hsq⟩ : ∃ s : ByteArray, s = ⟨q.toArray⟩ := ⟨_, rfl⟩
            rw [lit_of hsq] at c0
            have hqk : q ∈ ks := (HMEM.out q).1 (List.mem_of_getElem? hq)
            have hql := HS2.out q hqk
            have hjl : (j : Int) < (ks.length : Int) := by omega
            have htk : pk (ks2.take (j + 1)) = lput (pk (ks2.take j)) q 1 := by rw [List.take_add_one, hq]; exact pk_snoc _ _
            have hlen : (pk (ks2.take j)).length ≤ 40 := Nat.le_trans (pk_len _) (by rw [List.length_take]; omega)
            have hkeys : KeysLe 10000 (pk (ks2.take j)) := pk_keys fun k hk => by have := HS2.out k ((HMEM.out k).1 (List.mem_of_mem_take hk)); omega
            have q1 := TPut_calls wr tb _ fb2 HTB3.out 10000 (by omega) hkeys (by omega) sq q hsq (by omega) 1
            rw [← htk] at q1
            have Q1 := Lib.hid q1
            clear q1 htk hkeys hq hsq hqk hrd9 hA9
            go_wp2_with fail
            refine Q1.out.mono ?_
            rintro e w3 ⟨rfl, hp3⟩
            obtain ⟨fb3, T3, N3, B3, F3, M3⟩ := post_tv hp3 hbs3 (fun b hb => (HFB2.out b hb).1)
            have hno3 : ∀ b ∈ fb3, b ∉ fa := fun b hb hm => by
              rcases M3 b hb with e | e
              · exact (HFB2.out b e).2 hm
              · have := HTA3.out.lt b hm; omega
            have TA3 := HTA3.out.move fun b hb => F3.block b (HTA3.out.lt b hb) fun hm => (HFB2.out b hm).2 hb
            have P3 := HP3.out.put HTB3.out F3
            have R3 : Row w3 w.heap.size 9 1 (.slice (some ⟨g, off, none⟩) ks.length c8) ks.length (ks2.map str) := Row.at_ HRW3.out fun i hi => F3.block i (Row.lt HRW3.out i hi).2 (row_not_in HTB3.out HRW3.out (by decide) (by decide) (by decide) i hi)
            have E3 := HB3.out.trans B3
            have H3 := Lib.hid (And.intro T3 (And.intro TA3 (And.intro P3 (And.intro R3 (And.intro E3 (And.intro N3 hno3))))))
            clear T3 TA3 P3 R3 E3 N3 hno3 M3 B3 F3 hp3 Q1
            go_wp2
            go_roundw
            case rel => exact ⟨j + 1, fb3, by go_num, by omega, H3.out.1, fun b hb => ⟨H3.out.2.2.2.2.2.1 b hb, H3.out.2.2.2.2.2.2 b hb⟩, H3.out.2.1, H3.out.2.2.1, H3.out.2.2.2.1, H3.out.2.2.2.2.1⟩
            case measure => simp [intOf]; omega
          · obtain rfl : j = ks.length := by omega
            have htb := HTB3.out
            rw [← HL2.out, List.take_length] at htb
            have hpk : pk ks2 = pk ks := rise_one htb.rise HTA3.out.rise fun q => by
              rw [pk_mem, pk_mem]
              constructor
              · rintro ⟨k, a, b⟩; exact ⟨k, (HMEM.out k).1 a, b⟩
              · rintro ⟨k, a, b⟩; exact ⟨k, (HMEM.out k).2 a, b⟩
            rw [hpk] at htb
            have hkeys : KeysLe 10000 (pk ks) := pk_keys fun k hk => by have := HS2.out k hk; omega
            have hlen : (pk ks).length ≤ 40 := Nat.le_trans (pk_len _) (by omega)
            have va : TV w.heap.size wr ta u7 (pk ks) := ⟨fa, HTA3.out, fun b hb => (HFA.out b hb).1, HP3.out⟩
            have vb : TV w.heap.size wr tb u7 (pk ks) := ⟨fb2, htb, fun b hb => (HFB2.out b hb).1, HP3.out⟩
            have VA := Lib.hid va
            have VB := Lib.hid vb
            have HKK := Lib.hid hkeys
            clear htb hpk hkeys va vb
            go_wp2_with fail
            refine (alive_calls _).mono ?_
            rintro e w3 ⟨rfl, hb3⟩
            have B3 := HB3.out.trans (hb3.mono hbs3)
            go_wp2_with fail
            refine (tv_same w3 (VA.out.move hb3) HKK.out (by omega) ⟨#[]⟩ [] rfl (by simp)).mono ?_
            rintro e w4 ⟨rfl, hb4⟩
            have D4 := hb3.trans (hb4.mono hb3.size)
            have B4 := B3.trans (hb4.mono B3.size)
            go_wp2_with fail
            refine (tv_same w4 (VB.out.move D4) HKK.out (by omega) ⟨#[]⟩ [] rfl (by simp)).mono ?_
            rintro e w5 ⟨rfl, hb5⟩
            have D5 := D4.trans (hb5.mono D4.size)
            have B5 := B4.trans (hb5.mono B4.size)
            go_wp2_with fail
            refine (tv_nodes w5 (VA.out.move D5) (by omega)).mono ?_
            rintro e w6 ⟨n1, rfl, hn1, _, hb6⟩
            have D6 := D5.trans (hb6.mono D5.size)
            have B6 := B5.trans (hb6.mono B5.size)
            have HN1 := Lib.hid hn1
            clear hn1
            go_wp2_with fail
            refine (tv_nodes w6 (VB.out.move D6) (by omega)).mono ?_
            rintro e w7 ⟨n2, rfl, hn2, _, hb7⟩
            obtain rfl := HN1.out.one hn2
            clear hn2 HN1
            go_wp2
            go_ret
            exact ⟨rfl, B6.trans (hb7.mono B6.size)⟩
      · rw [if_neg hck] at hA1
        have HA1 := Lib.hid hA1
        clear hA1
        go_wp2_with fail
        go_region_held3 (fun w' => Below wr.heap.size wr w') (first
          | exact C8
          | exact C7
          | exact HB0.out
          | go_grown) (first
          | (refine step_append_row _ (by rfl) _ _ _ (by rfl) wr.heap.size 9 1 16 _ Try.underlying22 Try.info_str rfl (by decide) (.slice (some ⟨wr.heap.size, 0, none⟩) 0 0) 0 [] (by rfl) (Row.new _ #[] _ _ _ _ (by simp) (by simp [maxLen]) (by simp)) (A.map (fun x => x.add k)) (ks.length - k) (c - k) ((ks.drop k).map str) (by rfl) L1.out (HA1.out ▸ R1.out _ (by go_grown)) O1.out (by omega) (by simp only [maxLen]; omega) (by simp) ?_; intro A7 c7 w7 hrow7 hg7 hb7; have C7 : Below wr.heap.size wr w7 := Below.grown (by go_grown) hg7 (by simp) (fun j e => by simp [Value.ownBlock] at e; omega))
          | (refine step_append_row _ (by rfl) _ _ _ (by rfl) wr.heap.size 9 1 16 _ Try.underlying22 Try.info_str rfl (by decide) (.slice A7 (0 + (ks.length - k)) c7) _ _ (by rfl) hrow7 A k c ((ks.take k).map str) (by rfl) L2.out (R2.out _ C7) O2.out (by omega) (by simp only [maxLen]; omega) C7.size ?_; intro A8 c8 w8 hrow8 hg8 hb8; have C8 : Below wr.heap.size wr w8 := Below.grown C7 hg8 C7.size (fun j e => (hrow7.lt _ e).1)))
        have hn1 : 0 + (ks.length - k) + k = ks.length := by omega
        rw [hn1] at hrow8 ⊢
        rw [show 0 + (ks.length - k) = ks.length - k from Nat.zero_add _]
        have hrow9 : Row w8 wr.heap.size 9 1 (.slice A8 ks.length c8) ks.length ((ks.drop k ++ ks.take k).map str) := by rw [List.map_append]; simpa using hrow8
        obtain ⟨ks2, hks2⟩ : ∃ m, m = ks.drop k ++ ks.take k := ⟨_, rfl⟩
        rw [← hks2] at hrow9
        have hl2 : ks2.length = ks.length := by rw [hks2]; simp; omega
        have hmem : ∀ x, x ∈ ks2 ↔ x ∈ ks := fun x => by
          rw [hks2, List.mem_append]
          constructor
          · rintro (h | h)
            · exact List.mem_of_mem_drop h
            · exact List.mem_of_mem_take h
          · intro h
            rw [← List.take_append_drop k ks] at h
            rcases List.mem_append.1 h with h | h
            · exact .inr h
            · exact .inl h
        have E8 : Below w.heap.size w w8 := HB.out.trans (C8.mono hbs)
        have T8 := HA2.out.later C8
        have TB8 := HTB2.out.later C8
        have P8 := HP2.out.later C8
        have R8 := hrow9.mono hbs
        have hfab : ∀ b ∈ fb, w.heap.size ≤ b ∧ b ∉ fa := fun b hb => ⟨HFN.out b hb, fun hm => (HFA.out b hm).2 hb⟩
        have HL2 := Lib.hid hl2
        have HMEM := Lib.hid hmem
        have H8 := Lib.hid (And.intro T8 (And.intro TB8 (And.intro P8 (And.intro R8 (And.intro E8 hfab)))))
        clear hrow7 hg7 hb7 hrow8 hg8 hb8 C7 C8 hks2 hl2 hmem E8 T8 TB8 P8 R8 hfab hrow9 hn1 HA1
        go_wp2_with fail
        go_loopw [61] (fun u61 wq => ∃ (j : Nat) (fb2 : List Nat), u61 = n64 j ∧ j ≤ ks.length ∧ Tr wq tb (pk (ks2.take j)) fb2 ∧ (∀ b ∈ fb2, w.heap.size ≤ b ∧ b ∉ fa) ∧ Tr wq ta (pk ks) fa ∧ PR wq w.heap.size u7 (pk ks) ∧ Row wq w.heap.size 9 1 (.slice A8 ks.length c8) ks.length (ks2.map str) ∧ Below w.heap.size w wq) (fun u61 _ => (ks.length - intOf u61).toNat)
        case atStart => exact ⟨0, fb, rfl, Nat.zero_le _, H8.out.2.1, H8.out.2.2.2.2.2, H8.out.1, H8.out.2.2.1, H8.out.2.2.2.1, H8.out.2.2.2.2.1⟩
        case round =>
          obtain ⟨j, fb2, rfl, hj2, htb, hfb2, hta, hp, hrw, hb⟩ := hrel
          have HTB3 := Lib.hid htb
          have HTA3 := Lib.hid hta
          have HFB2 := Lib.hid hfb2
          have HP3 := Lib.hid hp
          have HRW3 := Lib.hid hrw
          have HB3 := Lib.hid hb
          have hbs3 := hb.size
          clear htb hta hfb2 hp hrw hb
          by_cases hlt2 : j < ks.length
          · obtain ⟨q, hq⟩ : ∃ q, ks2[j]? = some q := ⟨_, List.getElem?_eq_getElem (by rw [HL2.out]; exact hlt2)⟩
            obtain ⟨A9, c9, hv9, hnc9, _, hrd9, hA9⟩ := HRW3.out.rd
            cases hv9
            obtain ⟨g, off, rfl, c0⟩ := hrd9 j (str q) (by rw [List.getElem?_map, hq]; rfl)
            obtain ⟨sq, hsq⟩ : ∃ s : ByteArray, s = ⟨q.toArray⟩ := ⟨_, rfl⟩
            rw [lit_of hsq] at c0
            have hqk : q ∈ ks := (HMEM.out q).1 (List.mem_of_getElem? hq)
            have hql := HS2.out q hqk
            have hjl : (j : Int) < (ks.length : Int) := by omega
            have htk : pk (ks2.take (j + 1)) = lput (pk (ks2.take j)) q 1 := by rw [List.take_add_one, hq]; exact pk_snoc _ _
            have hlen : (pk (ks2.take j)).length ≤ 40 := Nat.le_trans (pk_len _) (by rw [List.length_take]; omega)
            have hkeys : KeysLe 10000 (pk (ks2.take j)) := pk_keys fun k hk => by have := HS2.out k ((HMEM.out k).1 (List.mem_of_mem_take hk)); omega
            have q1 := TPut_calls wr tb _ fb2 HTB3.out 10000 (by omega) hkeys (by omega) sq q hsq (by omega) 1
            rw [← htk] at q1
            have Q1 := Lib.hid q1
            clear q1 htk hkeys hq hsq hqk hrd9 hA9
            go_wp2_with fail
            refine Q1.out.mono ?_
            rintro e w3 ⟨rfl, hp3⟩
            obtain ⟨fb3, T3, N3, B3, F3, M3⟩ := post_tv hp3 hbs3 (fun b hb => (HFB2.out b hb).1)
            have hno3 : ∀ b ∈ fb3, b ∉ fa := fun b hb hm => by
              rcases M3 b hb with e | e
              · exact (HFB2.out b e).2 hm
              · have := HTA3.out.lt b hm; omega
            have TA3 := HTA3.out.move fun b hb => F3.block b (HTA3.out.lt b hb) fun hm => (HFB2.out b hm).2 hb
            have P3 := HP3.out.put HTB3.out F3
            have R3 : Row w3 w.heap.size 9 1 (.slice (some ⟨g, off, none⟩) ks.length c8) ks.length (ks2.map str) := Row.at_ HRW3.out fun i hi => F3.block i (Row.lt HRW3.out i hi).2 (row_not_in HTB3.out HRW3.out (by decide) (by decide) (by decide) i hi)
            have E3 := HB3.out.trans B3
            have H3 := Lib.hid (And.intro T3 (And.intro TA3 (And.intro P3 (And.intro R3 (And.intro E3 (And.intro N3 hno3))))))
            clear T3 TA3 P3 R3 E3 N3 hno3 M3 B3 F3 hp3 Q1
            go_wp2
            go_roundw
            case rel => exact ⟨j + 1, fb3, by go_num, by omega, H3.out.1, fun b hb => ⟨H3.out.2.2.2.2.2.1 b hb, H3.out.2.2.2.2.2.2 b hb⟩, H3.out.2.1, H3.out.2.2.1, H3.out.2.2.2.1, H3.out.2.2.2.2.1⟩
            case measure => simp [intOf]; omega
          · obtain rfl : j = ks.length := by omega
            have htb := HTB3.out
            rw [← HL2.out, List.take_length] at htb
            have hpk : pk ks2 = pk ks := rise_one htb.rise HTA3.out.rise fun q => by
              rw [pk_mem, pk_mem]
              constructor
              · rintro ⟨k, a, b⟩; exact ⟨k, (HMEM.out k).1 a, b⟩
              · rintro ⟨k, a, b⟩; exact ⟨k, (HMEM.out k).2 a, b⟩
            rw [hpk] at htb
            have hkeys : KeysLe 10000 (pk ks) := pk_keys fun k hk => by have := HS2.out k hk; omega
            have hlen : (pk ks).length ≤ 40 := Nat.le_trans (pk_len _) (by omega)
            have va : TV w.heap.size wr ta u7 (pk ks) := ⟨fa, HTA3.out, fun b hb => (HFA.out b hb).1, HP3.out⟩
            have vb : TV w.heap.size wr tb u7 (pk ks) := ⟨fb2, htb, fun b hb => (HFB2.out b hb).1, HP3.out⟩
            have VA := Lib.hid va
            have VB := Lib.hid vb
            have HKK := Lib.hid hkeys
            clear htb hpk hkeys va vb
            go_wp2_with fail
            refine (alive_calls _).mono ?_
            rintro e w3 ⟨rfl, hb3⟩
            have B3 := HB3.out.trans (hb3.mono hbs3)
            go_wp2_with fail
            refine (tv_same w3 (VA.out.move hb3) HKK.out (by omega) ⟨#[]⟩ [] rfl (by simp)).mono ?_
            rintro e w4 ⟨rfl, hb4⟩
            have D4 := hb3.trans (hb4.mono hb3.size)
            have B4 := B3.trans (hb4.mono B3.size)
            go_wp2_with fail
            refine (tv_same w4 (VB.out.move D4) HKK.out (by omega) ⟨#[]⟩ [] rfl (by simp)).mono ?_
            rintro e w5 ⟨rfl, hb5⟩
            have D5 := D4.trans (hb5.mono D4.size)
            have B5 := B4.trans (hb5.mono B4.size)
            go_wp2_with fail
            refine (tv_nodes w5 (VA.out.move D5) (by omega)).mono ?_
            rintro e w6 ⟨n1, rfl, hn1, _, hb6⟩
            have D6 := D5.trans (hb6.mono D5.size)
            have B6 := B5.trans (hb6.mono B5.size)
            have HN1 := Lib.hid hn1
            clear hn1
            go_wp2_with fail
            refine (tv_nodes w6 (VB.out.move D6) (by omega)).mono ?_
            rintro e w7 ⟨n2, rfl, hn2, _, hb7⟩
            obtain rfl := HN1.out.one hn2
            clear hn2 HN1
            go_wp2
            go_ret
            exact ⟨rfl, B6.trans (hb7.mono B6.size)⟩
end Go.Proofs.Ytkpfendodmfeoaa
