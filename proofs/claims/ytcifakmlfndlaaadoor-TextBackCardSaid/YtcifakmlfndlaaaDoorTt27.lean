import Derived.Test.YtcifakmlfndlaaaDoorTt23
namespace Go.Proofs.YtcifakmlfndlaaaDoor
set_option linter.unusedVariables false
set_option linter.unusedSimpArgs false
open Go.RowKit Go.Shelf
def wdR (cs : List Bs) (k : Nat) : Nat := skipR true cs (skipR false cs k)
def wdL (cs : List Bs) (k : Nat) : Nat := skipL true cs (skipL false cs k)
theorem wdR_le (cs : List Bs) {k : Nat} (h : k ≤ cs.length) : k ≤ wdR cs k ∧ wdR cs k ≤ cs.length := by
  have h1 := skipR_le false cs h
  have h2 := skipR_le true cs h1.2
  unfold wdR; omega
theorem wdR_gt (cs : List Bs) {k : Nat} (h : k < cs.length) : k + 1 ≤ wdR cs k := by
  unfold wdR
  cases hb : wordB (cs.getD k []) with
  | false =>
    rw [skipR_go h hb]
    have h1 := skipR_le false cs (show k + 1 ≤ cs.length by omega)
    have h2 := skipR_le true cs h1.2
    omega
  | true =>
    rw [skipR_stop (is := false) (.inr (by rw [hb]; decide)), skipR_go h hb]
    exact (skipR_le true cs (show k + 1 ≤ cs.length by omega)).1
theorem wdL_le (cs : List Bs) (k : Nat) : wdL cs k ≤ k := Nat.le_trans (skipL_le _ _ _) (skipL_le _ _ _)
theorem wdL_lt (cs : List Bs) {k : Nat} : wdL cs (k + 1) ≤ k := by
  unfold wdL
  cases hb : wordB (cs.getD k []) with
  | false =>
    have e : skipL false cs (k + 1) = skipL false cs k := by
      conv => lhs; unfold skipL
      rw [if_pos hb]
    rw [e]
    exact Nat.le_trans (skipL_le _ _ _) (skipL_le _ _ _)
  | true =>
    have e : skipL false cs (k + 1) = k + 1 := by
      conv => lhs; unfold skipL
      rw [if_neg (by rw [hb]; decide)]
    have e2 : skipL true cs (k + 1) = skipL true cs k := by
      conv => lhs; unfold skipL
      rw [if_pos hb]
    rw [e, e2]
    exact skipL_le _ _ _
/-- What a law of one string begins with. -/
theorem str_start (w : World) (s : ByteArray) (l : Bs) (hsl : s = ⟨l.toArray⟩) (hs : l.length ≤ 140737488351232) :
    ∃ W1, w.alloc (.cells #[.string s] 9) = W1 ∧ Below w.heap.size w W1 ∧
      Calls Tryd.prog 10 #[.slice (some ⟨w.heap.size, 0, none⟩) 1 1] W1 (fun e w' => e = .returned (.bool (decide (l.length ≤ 1500))) ∧ w' = W1) := by
  obtain ⟨W1, hW1⟩ : ∃ W1, W1 = w.alloc (.cells #[.string s] 9) := ⟨_, rfl⟩
  have hB1 : Below w.heap.size w W1 := by rw [hW1]; exact (Below.refl _ w).alloc (Nat.le_refl _) _
  have hrd : Rd W1 (some ⟨w.heap.size, 0, none⟩) ([l].map str) := by
    have := rd_new w #[.string s] 9
    rw [← hW1, hsl] at this
    exact this
  have qf := few3_calls W1 _ 1 [l] hrd (by simp) (fun s h => by
    simp only [List.mem_cons, List.not_mem_nil, or_false] at h
    rw [h]; omega)
  rw [show few3B [l] = decide (l.length ≤ 1500) by unfold few3B; simp] at qf
  exact ⟨W1, hW1.symm, hB1, qf⟩
theorem mk_back (S : Bs) (hS : mkS S = S) {k : Nat} (hk : k ≤ (cuts S).length) : back (mkS S) (off (cuts S) k : Int) = off (cuts (mkS S)) k := by
  rw [hS]; exact back_off S hk
theorem WdR_calls {S : Bs} (hS : mkS S = S) (bq : ByteArray) (hbq : bq = ⟨S.toArray⟩) {k : Nat} (hk : k ≤ (cuts S).length) (w : World) (hU : U8 w) :
    Calls Tryd.prog 28 #[.string bq, .int .i64 (off (cuts S) k : Int)] w fun e w' => e = .returned (n64 (off (cuts S) (wdR (cuts S) k))) ∧ Below w.heap.size w w' := by
  have hl : S.length ≤ 600 := by rw [← hS]; exact mkS_len S
  have := WordRight_calls S (by omega) bq hbq (off (cuts S) k : Int) k (by rw [hS]; exact hk) (mk_back S hS hk) w hU
  rw [hS] at this
  exact this
theorem WdL_calls {S : Bs} (hS : mkS S = S) (bq : ByteArray) (hbq : bq = ⟨S.toArray⟩) {k : Nat} (hk : k ≤ (cuts S).length) (w : World) (hU : U8 w) :
    Calls Tryd.prog 27 #[.string bq, .int .i64 (off (cuts S) k : Int)] w fun e w' => e = .returned (n64 (off (cuts S) (wdL (cuts S) k))) ∧ Below w.heap.size w w' := by
  have hl : S.length ≤ 600 := by rw [← hS]; exact mkS_len S
  have := WordLeft_calls S (by omega) bq hbq (off (cuts S) k : Int) k (by rw [hS]; exact hk) (mk_back S hS hk) w hU
  rw [hS] at this
  exact this
set_option maxRecDepth 100000 in
set_option maxHeartbeats 3200000 in
theorem TextWords_walk (w : World) (hU : U8 w) (s : ByteArray) (hs : s.size ≤ 140737488351232) :
    Calls Tryd.prog 9 #[.string s] w fun e w' => e = .returned (.bool true) ∧ Below w.heap.size w w' := by
  obtain ⟨l, hsl⟩ : ∃ l : Bs, s = ⟨l.toArray⟩ := ⟨s.data.toList, by cases s; simp⟩
  rw [hsl, str_of] at hs
  obtain ⟨W1, hW1, hB1, qf⟩ := str_start w s l hsl hs
  have QF := Lib.hid qf
  have HU := Lib.hid hU
  have HW1 := Lib.hid hW1
  have HB1 := Lib.hid hB1
  have al := fun (W : World) (h : U8 W) => al03_calls W h
  have AL := Lib.hid al
  have HSL := Lib.hid hsl
  clear qf hsl hU hW1 hB1 al
  go_enter Tryd.func9, Tryd.ntmps9
  go_wp2_with fail
  rw [HW1.out]
  refine QF.out.mono ?_
  rintro e w' ⟨rfl, rfl⟩
  by_cases hfw : l.length ≤ 1500
  rotate_left
  · rw [decide_eq_false hfw]
    clear hfw
    go_wp2_with fail
    refine (AL.out _ (HU.out.later HB1.out)).mono ?_
    rintro e w2 ⟨rfl, hb2⟩
    go_wp2
    go_ret
    exact ⟨rfl, HB1.out.trans (hb2.mono HB1.out.size)⟩
  · rw [decide_eq_true hfw]
    have q1 := Make_calls l (by omega) s HSL.out 0 w' (HU.out.later HB1.out)
    have hS := mkS_mkS l
    obtain ⟨x, hx⟩ : ∃ x, x = back (mkS l) 0 := ⟨_, rfl⟩
    rw [← hx] at q1
    have hml := mkS_len l
    obtain ⟨S, hSe⟩ : ∃ S, S = mkS l := ⟨_, rfl⟩
    rw [← hSe] at hS hml q1
    obtain ⟨bq, hbq⟩ : ∃ s : ByteArray, s = ⟨S.toArray⟩ := ⟨_, rfl⟩
    have zq : bq.size = S.length := by rw [hbq, str_of]
    have hq6 : bq.size ≤ 600 := by omega
    rw [show bufV S x = .agg #[.string bq, .int .i64 (x : Int)] by rw [hbq]] at q1
    have q2 := fun (W : World) => rCut_calls S (by omega) bq hbq W
    have q3 := fun (k : Nat) (hk : k ≤ (cuts S).length) (W : World) (h : U8 W) => WdR_calls hS bq hbq hk W h
    have q4 := fun (k : Nat) (hk : k ≤ (cuts S).length) (W : World) (h : U8 W) => WdL_calls hS bq hbq hk W h
    have hlen : ∀ k, k ≤ (cuts S).length → (off (cuts S) k = bq.size ↔ k = (cuts S).length) := fun k hk => by
      rw [zq]
      exact ⟨off_eq_len hk, fun e => by rw [e, off_len]⟩
    have hlts : ∀ j k, j < k → k ≤ (cuts S).length → off (cuts S) j < off (cuts S) k := fun j k h1 h2 => off_lt (cuts_nz S) h1 h2
    have hle : ∀ k, off (cuts S) k ≤ bq.size := fun k => by rw [zq]; exact off_le S k
    have hcl := cuts_len S
    obtain ⟨cs, hcs⟩ : ∃ cs, cs = cuts S := ⟨_, rfl⟩
    rw [← hcs] at q2 q3 q4 hlen hlts hle hcl
    have hn6 : cs.length ≤ 600 := by omega
    have Q1 := Lib.hid q1
    have Q2 := Lib.hid q2
    have Q3 := Lib.hid q3
    have Q4 := Lib.hid q4
    have HLEN := Lib.hid hlen
    have HLTS := Lib.hid hlts
    have HLE := Lib.hid hle
    clear hfw hs hx hml hSe hbq zq q1 q2 q3 q4 hlen hlts hle hcl hcs hS
    go_wp2_with fail
    refine (Q1.out).mono ?_
    rintro e w2 ⟨rfl, b2⟩
    have B2 := HB1.out.trans (b2.mono HB1.out.size)
    clear b2
    go_wp2_with fail
    obtain ⟨w3, e3, h3, b3⟩ := new_buf w2 (.string bq) (.int .i64 x) 25
    rw [e3]
    have B3 := B2.trans (b3.mono B2.size)
    have l3 := lt_of_heap h3
    have H3 := Lib.hid h3
    clear h3 b3 e3
    refine (Q2.out w3).mono ?_
    rintro e w4 ⟨v4, rfl, hrow, b4⟩
    obtain ⟨A4, c4, rfl, _⟩ := hrow.rd
    have B4 := B3.trans (b4.mono B3.size)
    have h4 := (b4.block _ l3).trans H3.out
    have H4 := Lib.hid h4
    have l4 := lt_of_heap h4
    clear b4 h4 hrow
    go_wp2
    go_loopw [5, 20] (fun u5 u20 wr => ∃ i k : Nat, u20 = n64 i ∧ u5 = n64 (off cs k) ∧ i ≤ cs.length ∧ i ≤ k ∧ k ≤ cs.length ∧ Below w4.heap.size w4 wr) (fun _ u20 _ => (cs.length - intOf u20).toNat)
    case atStart => exact ⟨0, 0, rfl, by rw [off_zero]; rfl, Nat.zero_le _, Nat.le_refl _, Nat.zero_le _, Below.refl _ _⟩
    case round =>
      obtain ⟨i, k, rfl, rfl, hi, hik, hk, hB⟩ := hrel
      have hbr := (hB.block _ l4).trans H4.out
      obtain ⟨c0, c1, _, _⟩ := buf_cells hbr
      have Br := B4.trans (hB.mono B4.size)
      have HBr := Lib.hid hbr
      have hbs := hB.size
      have HB := Lib.hid hB
      clear hbr hB
      by_cases hlt : i < cs.length
      · have q3 := Q3.out k hk wr (HU.out.later Br)
        have hw := wdR_le cs hk
        obtain ⟨p, hp⟩ : ∃ p, p = off cs k := ⟨_, rfl⟩
        obtain ⟨k', hk'⟩ : ∃ k', k' = wdR cs k := ⟨_, rfl⟩
        obtain ⟨q, hq⟩ : ∃ q, q = off cs k' := ⟨_, rfl⟩
        rw [← hk'] at hw
        rw [← hp, ← hk', ← hq] at q3
        rw [← hp]
        have QQ := Lib.hid q3
        have hlt2 : (i : Int) < (cs.length : Int) := by omega
        have hp6 : p ≤ bq.size := by rw [hp]; exact HLE.out k
        have hq6' : q ≤ bq.size := by rw [hq]; exact HLE.out k'
        have HP := Lib.hid hp
        have HQQ := Lib.hid hq
        by_cases hkl : k < cs.length
        · have hgt := wdR_gt cs hkl
          rw [← hk'] at hgt
          have hpq : p < q := by rw [hp, hq]; exact HLTS.out k k' (by omega) hw.2
          have i1 : decide ((q : Int) < (p : Int)) = false := by simp; omega
          have i2 : decide (q < p) = false := by simp; omega
          have i3 : decide ((q : Int) = (p : Int)) = false := by simp; omega
          have i4 : decide (q = p) = false := by simp; omega
          have i5 : ((q : Int) == (p : Int)) = false := by simp; omega
          clear q3 hp hq hk'
          go_wp2_with fail
          refine QQ.out.mono ?_
          rintro e w5 ⟨rfl, b5⟩
          have h5 := (b5.block _ (by omega)).trans HBr.out
          clear c0 c1
          obtain ⟨c0, c1, _, _⟩ := buf_cells h5
          clear h5
          go_wp2
          go_roundw
          case rel => exact ⟨i + 1, k', by go_num, by rw [HQQ.out], by omega, by omega, hw.2, HB.out.trans (b5.mono hbs)⟩
          case measure => simp [intOf]; omega
        · have hkl2 : k = cs.length := by omega
          have hkk : k' = k := by omega
          have hqp : q = p := by rw [hp, hq, hkk]
          have hpb : p = bq.size := by rw [hp]; exact (HLEN.out k hk).2 hkl2
          have HKK := Lib.hid hkk
          have HKL := Lib.hid hkl2
          clear hkk hkl2 hkl q3 hp hk' hq HQQ
          subst hqp
          have i1 : decide ((q : Int) < (q : Int)) = false := by simp
          have i2 : decide ((q : Int) < (bq.size : Int)) = false := by simp; omega
          have i3 : decide (q < bq.size) = false := by simp; omega
          clear hpb
          go_wp2_with fail
          refine QQ.out.mono ?_
          rintro e w5 ⟨rfl, b5⟩
          have h5 := (b5.block _ (by omega)).trans HBr.out
          clear c0 c1
          obtain ⟨c0, c1, _, _⟩ := buf_cells h5
          clear h5
          go_wp2
          go_roundw
          case rel => exact ⟨i + 1, k, by go_num, by rw [HP.out], by omega, by have := HKL.out; omega, hk, HB.out.trans (b5.mono hbs)⟩
          case measure => simp [intOf]; omega
      · obtain rfl : i = cs.length := by omega
        obtain rfl : k = cs.length := by omega
        have hend := (HLEN.out cs.length (Nat.le_refl _)).2 rfl
        rw [hend]
        have hne : decide ((bq.size : Int) = (bq.size : Int)) = true := by simp
        clear hend
        go_wp2
        go_loopw [5, 49] (fun u5 u49 wr => ∃ i k : Nat, u49 = n64 i ∧ u5 = n64 (off cs k) ∧ i ≤ cs.length ∧ k + i ≤ cs.length ∧ Below w4.heap.size w4 wr) (fun _ u49 _ => (cs.length - intOf u49).toNat)
        case atStart => exact ⟨0, cs.length, rfl, by rw [(HLEN.out cs.length (Nat.le_refl _)).2 rfl], Nat.zero_le _, Nat.le_refl _, HB.out⟩
        case round =>
          obtain ⟨i, k, rfl, rfl, hi, hik, hB⟩ := hrel
          have hk : k ≤ cs.length := by omega
          have hbr := (hB.block _ l4).trans H4.out
          clear c0 c1
          obtain ⟨c0, c1, _, _⟩ := buf_cells hbr
          have Br := B4.trans (hB.mono B4.size)
          have HBr := Lib.hid hbr
          have hbs := hB.size
          have HB := Lib.hid hB
          clear hbr hB
          by_cases hlt : i < cs.length
          · have q3 := Q4.out k hk wr (HU.out.later Br)
            obtain ⟨p, hp⟩ : ∃ p, p = off cs k := ⟨_, rfl⟩
            obtain ⟨k', hk'⟩ : ∃ k', k' = wdL cs k := ⟨_, rfl⟩
            obtain ⟨q, hq⟩ : ∃ q, q = off cs k' := ⟨_, rfl⟩
            rw [← hp, ← hk', ← hq] at q3
            rw [← hp]
            have QQ := Lib.hid q3
            have hlt2 : (i : Int) < (cs.length : Int) := by omega
            have hp6 : p ≤ bq.size := by rw [hp]; exact HLE.out k
            have hq6' : q ≤ bq.size := by rw [hq]; exact HLE.out k'
            have HP := Lib.hid hp
            have HQQ := Lib.hid hq
            by_cases hkl : 0 < k
            · have hgt : k' + 1 ≤ k := by
                have := wdL_lt cs (k := k - 1)
                rw [show k - 1 + 1 = k by omega, ← hk'] at this
                omega
              have hpq : q < p := by rw [hp, hq]; exact HLTS.out k' k (by omega) hk
              have i1 : decide ((p : Int) < (q : Int)) = false := by simp; omega
              have i2 : decide (p < q) = false := by simp; omega
              have i3 : decide ((q : Int) = (p : Int)) = false := by simp; omega
              have i4 : decide (q = p) = false := by simp; omega
              have i5 : ((q : Int) == (p : Int)) = false := by simp; omega
              clear q3 hp hq hk'
              go_wp2_with fail
              refine QQ.out.mono ?_
              rintro e w5 ⟨rfl, b5⟩
              have h5 := (b5.block _ (by omega)).trans HBr.out
              clear c0 c1
              obtain ⟨c0, c1, _, _⟩ := buf_cells h5
              clear h5
              go_wp2
              go_roundw
              case rel => exact ⟨i + 1, k', by go_num, by rw [HQQ.out], by omega, by omega, HB.out.trans (b5.mono hbs)⟩
              case measure => simp [intOf]; omega
            · obtain rfl : k = 0 := by omega
              have hkk : k' = 0 := by have := wdL_le cs 0; omega
              have hp0 : p = 0 := by rw [hp, off_zero]
              have hq0 : q = 0 := by rw [hq, hkk, off_zero]
              clear hkk hkl q3 hp hk' hq HQQ HP
              subst hp0 hq0
              go_wp2_with fail
              refine QQ.out.mono ?_
              rintro e w5 ⟨rfl, b5⟩
              have h5 := (b5.block _ (by omega)).trans HBr.out
              clear c0 c1
              obtain ⟨c0, c1, _, _⟩ := buf_cells h5
              clear h5
              go_wp2
              go_roundw
              case rel => exact ⟨i + 1, 0, by go_num, by rw [off_zero], by omega, by omega, HB.out.trans (b5.mono hbs)⟩
              case measure => simp [intOf]; omega
          · obtain rfl : i = cs.length := by omega
            obtain rfl : k = 0 := by omega
            rw [off_zero]
            go_wp2_with fail
            refine (AL.out wr (HU.out.later Br)).mono ?_
            rintro e w5 ⟨rfl, b5⟩
            go_wp2
            go_ret
            exact ⟨rfl, Br.trans (b5.mono Br.size)⟩
end Go.Proofs.YtcifakmlfndlaaaDoor
