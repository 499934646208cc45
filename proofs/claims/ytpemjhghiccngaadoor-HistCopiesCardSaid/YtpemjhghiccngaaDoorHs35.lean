import Derived.Test.YtpemjhghiccngaaDoorHs28
import Derived.Test.YtpemjhghiccngaaDoorHs13
namespace Go.Proofs.YtpemjhghiccngaaDoor
set_option linter.unusedVariables false
set_option linter.unusedSimpArgs false
open Go.RowKit Go.Shelf
set_option maxRecDepth 100000 in
set_option maxHeartbeats 6400000 in
theorem RRightBig_calls (e : EntT) (hd : e.d.length ≤ 140737488351232) (hc : e.c.length ≤ 140737488351232) (hbig : 60 < e.d.length ∨ 600 < e.c.length) (w : World) (hU : U8 w) :
    Calls Tryd.prog 29 #[entV e] w fun x w' => x = .returned (.bool (rightE e)) ∧ Below w.heap.size w w' := by
  obtain ⟨sd, hsd⟩ : ∃ s : ByteArray, s = ⟨e.d.toArray⟩ := ⟨_, rfl⟩
  obtain ⟨sc, hsc⟩ : ∃ s : ByteArray, s = ⟨e.c.toArray⟩ := ⟨_, rfl⟩
  obtain ⟨pd, hpd⟩ : ∃ s : ByteArray, s = ⟨(pl e.d).toArray⟩ := ⟨_, rfl⟩
  obtain ⟨pc, hpc⟩ : ∃ s : ByteArray, s = ⟨(pl e.c).toArray⟩ := ⟨_, rfl⟩
  have ev : entV e = .agg #[.int .i64 e.t, .string sd, .string sc] := by unfold entV; rw [hsd, hsc]
  rw [ev]
  obtain ⟨t, ht⟩ : ∃ t, t = e.t := ⟨_, rfl⟩
  rw [← ht]
  obtain ⟨W0, hW0⟩ : ∃ W0, w.alloc (.cells #[.int .i64 t, .string sd, .string sc] 28) = W0 := ⟨_, rfl⟩
  have hB0 : Below w.heap.size w W0 := by rw [← hW0]; exact (Below.refl _ w).alloc (Nat.le_refl _) _
  have hb0 : W0.heap[w.heap.size]? = some (.cells #[.int .i64 t, .string sd, .string sc] 28 (0, 0)) := by rw [← hW0]; exact heap_alloc_new w _
  obtain ⟨c0, c1, c2⟩ := ent_cells hb0
  have hbd := str_beq hpd hsd
  have hbc := str_beq hpc hsc
  have hzd : sd.size = e.d.length := by rw [hsd, str_of]
  have hzc : sc.size = e.c.length := by rw [hsc, str_of]
  have hr : rightE e = (decide (0 ≤ t) && (decide (t < 1099511627776) && ((decide (sd.size ≤ 60) && decide (pl e.d = e.d)) && (decide (1 ≤ sc.size) && (decide (sc.size ≤ 600) && decide (pl e.c = e.c)))))) := by rw [hzd, hzc, ht]; rfl
  have HR := Lib.hid hr
  have HB := Lib.hid hb0
  have HW := Lib.hid hW0
  have HB0 := Lib.hid hB0
  have HU := Lib.hid hU
  have l0 := lt_of_heap hb0
  have hdl : sd.size ≤ 140737488351232 := by omega
  have hcl : sc.size ≤ 140737488351232 := by omega
  have hbg : 60 < sd.size ∨ 600 < sc.size := by omega
  have HBG := Lib.hid hbg
  clear hbg hbig
  clear hr hb0 hB0 hW0 hU hsd hsc hpd hpc hzd hzc ht ev hd hc
  go_enter Tryd.func29, Tryd.ntmps29
  by_cases ht0 : 0 ≤ t
  rotate_left
  · have hf : rightE e = false := by rw [HR.out]; simp [ht0]
    have HF := Lib.hid hf
    have t00 : decide (t < 0) = true := decide_eq_true (by omega)
    clear hf ht0 
    go_wp2_with fail
    rw [HW.out]
    go_wp2
    go_ret
    exact ⟨by rw [HF.out]; rfl, HB0.out⟩
  · by_cases htl : t < 1099511627776
    rotate_left
    · have hf : rightE e = false := by rw [HR.out]; simp [htl]
      have HF := Lib.hid hf
      have t00 : decide (t < 0) = false := decide_eq_false (by omega)
      have tl0 : decide ((1099511627775 : Int) < t) = true := decide_eq_true (by omega)
      clear hf htl ht0
      go_wp2_with fail
      rw [HW.out]
      go_wp2
      go_ret
      exact ⟨by rw [HF.out]; rfl, HB0.out⟩
    · by_cases h60 : sd.size ≤ 60
      rotate_left
      · have hf : rightE e = false := by rw [HR.out]; simp [h60]
        have HF := Lib.hid hf
        have t00 : decide (t < 0) = false := decide_eq_false (by omega)
        have tl0 : decide ((1099511627775 : Int) < t) = false := decide_eq_false (by omega)
        have d60 : decide ((60 : Int) < (sd.size : Int)) = true := decide_eq_true (by omega)
        have d61 : decide (60 < sd.size) = true := decide_eq_true (by omega)
        clear hf h60 ht0 htl
        go_wp2_with fail
        rw [HW.out]
        go_wp2
        go_ret
        exact ⟨by rw [HF.out]; rfl, HB0.out⟩
      · by_cases hc1 : 1 ≤ sc.size
        rotate_left
        · have hf : rightE e = false := by rw [HR.out]; simp [hc1]
          have HF := Lib.hid hf
          have t00 : decide (t < 0) = false := decide_eq_false (by omega)
          have tl0 : decide ((1099511627775 : Int) < t) = false := decide_eq_false (by omega)
          have d60 : decide ((60 : Int) < (sd.size : Int)) = false := decide_eq_false (by omega)
          have d61 : decide (60 < sd.size) = false := decide_eq_false (by omega)
          have c10 : decide ((sc.size : Int) < 1) = true := decide_eq_true (by omega)
          have c11 : decide (sc.size < 1) = true := decide_eq_true (by omega)
          have c12 : decide (sc.size = 0) = true := decide_eq_true (by omega)
          clear hf hc1 ht0 htl h60
          go_wp2_with fail
          rw [HW.out]
          go_wp2
          go_ret
          exact ⟨by rw [HF.out]; rfl, HB0.out⟩
        · by_cases hc6 : sc.size ≤ 600
          rotate_left
          · have hf : rightE e = false := by rw [HR.out]; simp [hc6]
            have HF := Lib.hid hf
            have t00 : decide (t < 0) = false := decide_eq_false (by omega)
            have tl0 : decide ((1099511627775 : Int) < t) = false := decide_eq_false (by omega)
            have d60 : decide ((60 : Int) < (sd.size : Int)) = false := decide_eq_false (by omega)
            have d61 : decide (60 < sd.size) = false := decide_eq_false (by omega)
            have c10 : decide ((sc.size : Int) < 1) = false := decide_eq_false (by omega)
            have c11 : decide (sc.size < 1) = false := decide_eq_false (by omega)
            have c12 : decide (sc.size = 0) = false := decide_eq_false (by omega)
            have c60 : decide ((600 : Int) < (sc.size : Int)) = true := decide_eq_true (by omega)
            have c61 : decide (600 < sc.size) = true := decide_eq_true (by omega)
            clear hf hc6 ht0 htl h60 hc1
            go_wp2_with fail
            rw [HW.out]
            go_wp2
            go_ret
            exact ⟨by rw [HF.out]; rfl, HB0.out⟩
          · exact absurd HBG.out (by omega)
theorem RRightAny_calls (e : EntT) (hd : e.d.length ≤ 140737488351232) (hc : e.c.length ≤ 140737488351232) (w : World) (hU : U8 w) :
    Calls Tryd.prog 29 #[entV e] w fun x w' => x = .returned (.bool (rightE e)) ∧ Below w.heap.size w w' := by
  by_cases h : 60 < e.d.length ∨ 600 < e.c.length
  · exact RRightBig_calls e hd hc h w hU
  · exact RRight_calls e (by omega) (by omega) w hU
theorem right_small {e : EntT} (h : rightE e = true) : e.d.length ≤ 60 ∧ e.c.length ≤ 600 := by
  unfold rightE at h
  simp only [Bool.and_eq_true, decide_eq_true_eq] at h
  omega
theorem cellC {w w' : World} (h : Below w.heap.size w w') {a : Addr} {v : Value} (hc : w.cell? a = some v) : w'.cell? a = some v := by
  rw [h.cell (World.block_lt_of_cell? w a hc)]
  exact hc
set_option maxHeartbeats 12800000 in
set_option maxRecDepth 100000 in
theorem HistCopies_walk (w : World) (A : Option Addr) (c : Nat) (l : List EntT) (hi : In15 w A l) (e : EntT) (hed : e.d.length ≤ 140737488351232) (hec : e.c.length ≤ 140737488351232) :
    Calls Tryd.prog 7 #[.slice A l.length c, entV e] w fun x w' => x = .returned (.bool true) ∧ Below w.heap.size w w' := by
  have hfew := fun (W : World) (h : Below w.heap.size w W) => few15_calls W A c l (hi.rd.later h) (fun a ha hn => Nat.lt_of_lt_of_le (hi.blk a ha hn) h.size) hi.len hi.keys
  have hright := fun (W : World) (h : U8 W) => RRightAny_calls e hed hec W h
  obtain ⟨W0, hev, hv, b0⟩ := new_ent w e 28
  obtain ⟨q0, q1, q2⟩ := ent_cells hv
  obtain ⟨b, hb⟩ : ∃ b, b = fewE l := ⟨_, rfl⟩
  rw [← hb] at hfew
  obtain ⟨r, hr⟩ : ∃ r, r = rightE e := ⟨_, rfl⟩
  rw [← hr] at hright
  unfold entV at hright ⊢
  have HI := Lib.hid hi
  have HEV := Lib.hid hev
  have HV := Lib.hid hv
  have HB0 := Lib.hid b0
  have HFW := Lib.hid hfew
  have HRT := Lib.hid hright
  clear hi hev hv b0 hfew hright hed hec
  cases b with
  | false =>
    clear hb hr
    go_enter Tryd.func7, Tryd.ntmps7
    go_wp2_with fail
    rw [HEV.out]
    refine (HFW.out W0 HB0.out).mono ?_
    rintro e w1 ⟨rfl, b1⟩
    have B1 := HB0.out.trans (b1.mono HB0.out.size)
    go_wp2_with fail
    refine (al15_calls w1 (HI.out.u8.later B1)).mono ?_
    rintro e w2 ⟨rfl, b2⟩
    go_wp2
    go_ret
    exact ⟨rfl, B1.trans (b2.mono B1.size)⟩
  | true =>
    have HF := Lib.hid hb.symm
    clear hb
    cases r with
    | false =>
      clear hr
      go_enter Tryd.func7, Tryd.ntmps7
      go_wp2_with fail
      rw [HEV.out]
      refine (HFW.out W0 HB0.out).mono ?_
      rintro e w1 ⟨rfl, b1⟩
      have B1 := HB0.out.trans (b1.mono HB0.out.size)
      have hv1 := keepB HV.out b1
      clear q0 q1 q2
      obtain ⟨q0, q1, q2⟩ := ent_cells hv1
      have HB1 := Lib.hid B1
      clear b1 B1 hv1
      go_wp2_with fail
      refine (HRT.out w1 (HI.out.u8.later HB1.out)).mono ?_
      rintro e w2 ⟨rfl, b2⟩
      have B2 := HB1.out.trans (b2.mono HB1.out.size)
      go_wp2_with fail
      refine (al15_calls w2 (HI.out.u8.later B2)).mono ?_
      rintro e w3 ⟨rfl, b3⟩
      go_wp2
      go_ret
      exact ⟨rfl, B2.trans (b3.mono B2.size)⟩
    | true =>
      have HR := Lib.hid hr.symm
      clear hr
      have hl120 := (few_small HF.out).1
      have hsm := right_small HR.out
      have HSM := Lib.hid hsm
      clear hsm
      go_enter Tryd.func7, Tryd.ntmps7
      go_wp2_with fail
      rw [HEV.out]
      refine (HFW.out W0 HB0.out).mono ?_
      rintro y w1 ⟨rfl, b1⟩
      have HV1 := Lib.hid (keepB HV.out b1)
      clear q0 q1 q2
      obtain ⟨q0, q1, q2⟩ := ent_cells HV1.out
      have HB1 := Lib.hid (HB0.out.trans (b1.mono HB0.out.size))
      clear b1
      go_wp2_with fail
      refine (HRT.out w1 (HI.out.u8.later HB1.out)).mono ?_
      rintro y w2 ⟨rfl, b2⟩
      have HV2 := Lib.hid (keepB HV1.out b2)
      have HB2 := Lib.hid (HB1.out.trans (b2.mono HB1.out.size))
      clear b2 q0 q1 q2
      go_wp2_with fail
      refine (New12_calls w2 A c l (HI.out.rd.later HB2.out) (by omega)).mono ?_
      rintro y w3 ⟨A3, c3, rfl, hr3, b3⟩
      have HV3 := Lib.hid (keepB HV2.out b3)
      have HB3 := Lib.hid (HB2.out.trans (b3.mono HB2.out.size))
      have Q := Lib.hid (OfNew HI.out.u8 HF.out HB3.out (c1 := c3) hr3.rdS.1)
      clear b3 hr3
      go_wp2_with fail
      refine Q.out.mono ?_
      rintro y w4 ⟨hb, rfl, hg4, b4⟩
      have hlen := of_len100 HF.out
      have HG4 := Lib.hid hg4
      have HV4 := Lib.hid (keepB HV3.out b4)
      have HB4 := Lib.hid (HB3.out.trans (b4.mono HB3.out.size))
      have hrof := fun (W : World) (h : Below w.heap.size w W) => rOf15_calls W (HI.out.u8.later h) A c l (HI.out.rd.later h) (by omega) (few_smallE HF.out)
      obtain ⟨L, hL⟩ : ∃ L, L = ofL l := ⟨_, rfl⟩
      rw [← hL] at hlen HG4 hrof
      have HROF := Lib.hid hrof
      clear hL hg4 b4 hrof
      go_wp2_with fail
      refine (HgCopy_calls w4 HG4.out (by omega)).mono ?_
      rintro y w5 ⟨hk, rfl, hg5, b5⟩
      obtain ⟨C5, fp5, hh5, hinv5, hfp5⟩ := hg5
      have HH5 := Lib.hid hh5
      have HI5 := Lib.hid hinv5
      have HF5 := Lib.hid hfp5
      have HG5 := Lib.hid (HG4.out.later b5)
      have HB45 := Lib.hid b5
      clear hh5 hinv5 hfp5 b5
      go_wp2_with fail
      refine (HgCmds_calls w5 HG5.out (by omega)).mono ?_
      rintro y w6 ⟨A6, c6, rfl, hr6, b6⟩
      have HH6 := Lib.hid (HH5.out.later b6)
      have HB46 := Lib.hid (HB45.out.trans (b6.mono HB45.out.size))
      have HR6 := Lib.hid hr6.rdS.1
      have HN6 : Hid (∀ a, A6 = some a → a.block ∉ fp5) := Lib.hid (fun a ha hm => by have h1 := HH5.out.lt _ hm; have h2 := (hr6.rdS.2 a ha).1; omega)
      have HA6 := Lib.hid (fun a (ha : A6 = some a) => (hr6.rdS.2 a ha).2)
      have hcl := cmdsE_len L
      clear b6 hr6
      go_wp2
      go_loopw [29] (fun u29 wr => ∃ (k : Nat) (M : List EntT) (C' : List Bs) (fp : List Nat), u29 = n64 k ∧ k ≤ 8 ∧ M.length ≤ 120 + k ∧ Hid (0 < k → ∃ q, M = q ++ [e]) ∧ Hid (Hi wr hk M C' fp) ∧ Hid (InvC M C') ∧ Hid (∀ b ∈ fp, w4.heap.size ≤ b) ∧ Hid (∀ a, A6 = some a → a.block ∉ fp) ∧ Hid (Rd wr A6 ((cmdsE L).map str)) ∧ Hid (w6.heap.size ≤ wr.heap.size) ∧ Hid (Below w4.heap.size w4 wr)) (fun u29 _ => (8 - intOf u29).toNat)
      case atStart => exact ⟨0, L, C5, fp5, rfl, Nat.zero_le _, hlen, Lib.hid (fun h => absurd h (by omega)), HH6, HI5, HF5, HN6, HR6, Lib.hid (Nat.le_refl _), HB46⟩
      case round =>
        obtain ⟨k, M, C', fp, rfl, hk8, hml, HQ, HH, HIV, HFP, HNF, HRR, HSZ, HBB⟩ := hrel
        have hvr := keepB HV4.out HBB.out
        obtain ⟨q0, q1, q2⟩ := ent_cells hvr
        by_cases hlt : k < 8
        · have hcl2 := cmdsE_len M
          have hCl := HIV.out.len
          have q := HAdd_calls wr (HI.out.u8.later (HB4.out.trans (HBB.out.mono HB4.out.size))) HH.out (by omega) (by omega) e (by have := HSM.out; omega) (by have := HSM.out; omega)
          unfold entV at q
          have Q2 := Lib.hid q
          have b1 : (k : Int) < 8 := by omega
          clear q hvr hCl
          go_wp2_with fail
          refine Q2.out.mono ?_
          rintro y w7 ⟨A7, c7, fp7, rfl, hr7, hh7, hf7, hfp7⟩
          obtain ⟨m1, m2, m3⟩ := add_both HIV.out e
          rw [m1] at hh7
          have hs7 := hf7.size
          have hbb := HBB.out.size
          have HM7 : Hid (0 < k + 1 → ∃ q, addL M e = q ++ [e]) := Lib.hid (fun _ => addL_last M HR.out)
          have hml7 : (addL M e).length ≤ 120 + (k + 1) := Nat.le_trans (addL_len M e) (by omega)
          have HF7 : Hid (∀ b ∈ fp7, w4.heap.size ≤ b) := Lib.hid (fun b h => by
            rcases hfp7 b h with e1 | e1
            · exact HFP.out b e1
            · omega)
          have HN7 : Hid (∀ a, A6 = some a → a.block ∉ fp7) := Lib.hid (fun a ha hm => by
            rcases hfp7 _ hm with e1 | e1
            · exact HNF.out a ha e1
            · have h2 := HA6.out a ha; have h3 := HSZ.out; omega)
          have HR7 : Hid (Rd w7 A6 ((cmdsE L).map str)) := Lib.hid (HRR.out.fr hf7 fun a ha _ => HNF.out a ha)
          have HB7 : Hid (Below w4.heap.size w4 w7) := Lib.hid (HBB.out.trans (hf7.below hbb fun b hb hm => by have := HFP.out b hm; omega))
          have HH7 := Lib.hid hh7
          have HSZ7 := Lib.hid (Nat.le_trans HSZ.out hs7)
          have HI7 := Lib.hid m3
          clear hr7 hh7 hf7 hfp7 m1 m2 m3 hs7 hbb q0 q1 q2
          go_wp2
          go_roundw
          case rel => exact ⟨k + 1, _, _, fp7, by go_num, by omega, hml7, HM7, HH7, HI7, HF7, HN7, HR7, HSZ7, HB7⟩
          case measure => simp [intOf]; omega
        · obtain rfl : k = 8 := by omega
          have HBw := Lib.hid (HB4.out.trans (HBB.out.mono HB4.out.size))
          have hg := (⟨C', fp, HH.out, HIV.out, HFP.out⟩ : Hg w4.heap.size wr hk M)
          have HGC := Lib.hid hg
          obtain ⟨qq, hq⟩ := HQ.out (by omega)
          have hce : cmdsE M = e.c :: (cmdsE qq).filter fun y => !decide (y = e.c) := by rw [hq, cmdsE_snoc]
          have HCE := Lib.hid hce
          clear hg hq hce hvr q0 q1 q2
          go_wp2_with fail
          refine (HgCmds_calls wr HGC.out (by omega)).mono ?_
          rintro y w8 ⟨A8, c8, rfl, hr8, b8⟩
          have HB48 := Lib.hid (HBB.out.trans (b8.mono HBB.out.size))
          have HR8 := Lib.hid (HRR.out.later b8)
          obtain ⟨T, hT⟩ : ∃ T, T = (cmdsE qq).filter fun y => !decide (y = e.c) := ⟨_, rfl⟩
          have hrd8 := hr8.rdS.1
          rw [HCE.out, ← hT] at hrd8 ⊢
          obtain ⟨g8, o8, rfl, x0⟩ := hrd8 0 (str e.c) rfl
          rw [Nat.add_zero] at x0
          have hv8 := keepB HV4.out HB48.out
          obtain ⟨q0, q1, q2⟩ := ent_cells hv8
          have HGO := Lib.hid (HG4.out.later HB48.out)
          have HBW8 := Lib.hid (HB4.out.trans (HB48.out.mono HB4.out.size))
          obtain ⟨se, hse⟩ : ∃ s : ByteArray, s = ⟨e.c.toArray⟩ := ⟨_, rfl⟩
          rw [lit_of hse] at x0 q2
          have HTL := Lib.hid hT
          have i0 : (0 : Int) < ((T.length : Int) + 1) := by omega
          have i0' : decide ((0 : Int) < ((T.length : Int) + 1)) = true := decide_eq_true i0
          clear hT hr8 b8 hrd8 hv8 hse q0 q1
          go_wp2_with fail
          have D0 : Below w8.heap.size w8 w8.drew := (Below.refl _ w8).drew
          have FC : ∀ W, Below w8.heap.size w8 W → W.cell? ⟨g8, o8, none⟩ = some (.string se) ∧ W.cell? ⟨w.heap.size, 2, none⟩ = some (.string se) := fun W hW => ⟨cellC hW x0, cellC hW q2⟩
          refine wp_region_held_drew (S := fun w' => Hid (Below w8.heap.size w8 w') ∧ w'.cell? ⟨g8, o8, none⟩ = some (.string se) ∧ w'.cell? ⟨w.heap.size, 2, none⟩ = some (.string se)) (by kernel_rfl) ⟨Lib.hid D0, FC _ D0⟩ (fun hHeld => ?_)
          refine wpAnyH_ready (rs := [0]) (by kernel_rfl) (by simp) ?_
          refine AllReadyH.cons (o := { dst := some 37, op := Op.call { callee := Callee.value (Operand.func 11), args := #[], argTypes := #[] }, type := 4, pos := "law.go:189", after := #[], guard := none }) rfl (fun K hK => ?_) AllReadyH.nil
          go_simp
          refine (al15_calls w8.drew (HI.out.u8.later (HBW8.out.trans (D0.mono HBW8.out.size)))).mono ?_
          rintro y w9 ⟨rfl, b9⟩
          have D9 : Below w8.heap.size w8 w9 := D0.trans (b9.mono D0.size)
          refine hK.out _ _ ⟨Lib.hid D9, FC _ D9⟩ (fun hHeld => ?_)
          clear hK K
          try simp only [Act.put, List.setIfInBounds_toArray, List.set_cons_zero, List.set_cons_succ]
          refine wpAnyH_take (i := 1) (oi := { dst := some 38, op := Op.move (Operand.tmp 37), type := 4, pos := "law.go:189", after := #[{ on := 0, ground := Ground.data }, { on := 0, ground := Ground.chain }], guard := none }) (v := ?_) rfl (by kernel_rfl) (by kernel_rfl) (by kernel_rfl) (fun _ _ _ h => h) (Or.inl ⟨by rfl, ?hy1⟩) (by assumption) ?_
          case hy1 => (intro w hSw; (try dsimp only at hSw); go_simp); (try with_reducible rfl)
          try simp only [Act.put, List.setIfInBounds_toArray, List.set_cons_zero, List.set_cons_succ]
          refine wpAnyH_take (i := 2) (oi := { dst := some 39, op := Op.move (Operand.tmp 5), type := 25, pos := "law.go:189", after := #[{ on := 1, ground := Ground.guard }], guard := some (1, true) }) (v := ?_) rfl (by kernel_rfl) (by kernel_rfl) (by kernel_rfl) (fun _ _ _ h => h) (Or.inl ⟨by rfl, ?hy2⟩) (by assumption) ?_
          case hy2 => (intro w hSw; (try dsimp only at hSw); go_simp); (try with_reducible rfl)
          try simp only [Act.put, List.setIfInBounds_toArray, List.set_cons_zero, List.set_cons_succ]
          refine wpAnyH_take (i := 4) (oi := { dst := some 41, op := Op.move (Operand.tmp 7), type := 29, pos := "law.go:189", after := #[{ on := 1, ground := Ground.guard }], guard := some (1, true) }) (v := ?_) rfl (by kernel_rfl) (by kernel_rfl) (by kernel_rfl) (fun _ _ _ h => h) (Or.inl ⟨by rfl, ?hy4⟩) (by assumption) ?_
          case hy4 => (intro w hSw; (try dsimp only at hSw); go_simp); (try with_reducible rfl)
          try simp only [Act.put, List.setIfInBounds_toArray, List.set_cons_zero, List.set_cons_succ]
          refine wpAnyH_ready (rs := [3]) (by kernel_rfl) (by simp) ?_
          refine AllReadyH.cons (o := { dst := some 40, op := Op.call { callee := Callee.value (Operand.func 19), args := #[Operand.tmp 39], argTypes := #[25] }, type := 29, pos := "law.go:189", after := #[{ on := 2, ground := Ground.data }, { on := 1, ground := Ground.chain }, { on := 1, ground := Ground.guard }], guard := some (1, true) }) rfl (fun K hK => ?_) AllReadyH.nil
          go_simp
          refine (HgCmds_calls w9 (HGO.out.later D9) (by omega)).mono ?_
          rintro y w10 ⟨A10, c10, rfl, hr10, b10⟩
          have D10 : Below w8.heap.size w8 w10 := D9.trans (b10.mono D9.size)
          have HR10 := Lib.hid hr10.rdS.1
          refine hK.out _ _ ⟨Lib.hid D10, FC _ D10⟩ (fun hHeld => ?_)
          clear hK K
          try simp only [Act.put, List.setIfInBounds_toArray, List.set_cons_zero, List.set_cons_succ]
          refine wpAnyH_ready (rs := [5]) (by kernel_rfl) (by simp) ?_
          refine AllReadyH.cons (o := { dst := some 42, op := Op.call { callee := Callee.value (Operand.func 15), args := #[Operand.tmp 40, Operand.tmp 41], argTypes := #[29, 29] }, type := 4, pos := "law.go:189", after := #[{ on := 3, ground := Ground.data }, { on := 4, ground := Ground.data }, { on := 3, ground := Ground.chain }, { on := 1, ground := Ground.guard }], guard := some (1, true) }) rfl (fun K hK => ?_) AllReadyH.nil
          go_simp
          refine (texts_self w10 A10 c10 (cmdsE L) A6 c6 HR10.out (HR8.out.later D10) (by omega)).mono ?_
          rintro y w11 ⟨rfl, b11⟩
          have D11 : Below w8.heap.size w8 w11 := D10.trans (b11.mono D10.size)
          refine hK.out _ _ ⟨Lib.hid D11, FC _ D11⟩ (fun hHeld => ?_)
          clear hK K
          try simp only [Act.put, List.setIfInBounds_toArray, List.set_cons_zero, List.set_cons_succ]
          refine wpAnyH_take (i := 6) (oi := { dst := some 43, op := Op.pick (Operand.tmp 38) (Operand.tmp 42) (Operand.const (Value.bool false)), type := 4, pos := "law.go:189", after := #[{ on := 1, ground := Ground.data }, { on := 5, ground := Ground.data }], guard := none }) (v := ?_) rfl (by kernel_rfl) (by kernel_rfl) (by kernel_rfl) (fun _ _ _ h => h) (Or.inl ⟨by rfl, ?hy6⟩) (by assumption) ?_
          case hy6 => (intro w hSw; (try dsimp only at hSw); go_simp); (try with_reducible rfl)
          try simp only [Act.put, List.setIfInBounds_toArray, List.set_cons_zero, List.set_cons_succ]
          refine wpAnyH_take (i := 7) (oi := { dst := some 44, op := Op.move (Operand.tmp 43), type := 4, pos := "law.go:189", after := #[{ on := 6, ground := Ground.data }, { on := 5, ground := Ground.chain }], guard := none }) (v := ?_) rfl (by kernel_rfl) (by kernel_rfl) (by kernel_rfl) (fun _ _ _ h => h) (Or.inl ⟨by rfl, ?hy7⟩) (by assumption) ?_
          case hy7 => (intro w hSw; (try dsimp only at hSw); go_simp); (try with_reducible rfl)
          try simp only [Act.put, List.setIfInBounds_toArray, List.set_cons_zero, List.set_cons_succ]
          refine wpAnyH_take (i := 8) (oi := { dst := some 45, op := Op.move (Operand.tmp 8), type := 29, pos := "law.go:189", after := #[{ on := 7, ground := Ground.guard }], guard := some (7, true) }) (v := ?_) rfl (by kernel_rfl) (by kernel_rfl) (by kernel_rfl) (fun _ _ _ h => h) (Or.inl ⟨by rfl, ?hy8⟩) (by assumption) ?_
          case hy8 => (intro w hSw; (try dsimp only at hSw); go_simp); (try with_reducible rfl)
          try simp only [Act.put, List.setIfInBounds_toArray, List.set_cons_zero, List.set_cons_succ]
          refine wpAnyH_take (i := 9) (oi := { dst := some 46, op := Op.call { callee := Callee.builtin Builtin.len, args := #[Operand.tmp 45], argTypes := #[29] }, type := 3, pos := "law.go:189", after := #[{ on := 8, ground := Ground.data }, { on := 7, ground := Ground.guard }], guard := some (7, true) }) (v := ?_) rfl (by kernel_rfl) (by kernel_rfl) (by kernel_rfl) (fun _ _ _ h => h) (Or.inl ⟨by rfl, ?hy9⟩) (by assumption) ?_
          case hy9 => (intro w hSw; (try dsimp only at hSw); go_simp); (try with_reducible rfl)
          try simp only [Act.put, List.setIfInBounds_toArray, List.set_cons_zero, List.set_cons_succ]
          refine wpAnyH_take (i := 10) (oi := { dst := some 47, op := Op.binOp BinOp.gtr 3 (Operand.tmp 46) (Operand.const (Value.int IntKind.i64 0)) 3, type := 4, pos := "law.go:189", after := #[{ on := 9, ground := Ground.data }, { on := 7, ground := Ground.guard }], guard := some (7, true) }) (v := ?_) rfl (by kernel_rfl) (by kernel_rfl) (by kernel_rfl) (fun _ _ _ h => h) (Or.inl ⟨by rfl, ?hy10⟩) (by assumption) ?_
          case hy10 => (intro w hSw; (try dsimp only at hSw); go_simp); (try with_reducible rfl)
          try simp only [Act.put, List.setIfInBounds_toArray, List.set_cons_zero, List.set_cons_succ]
          refine wpAnyH_take (i := 11) (oi := { dst := some 48, op := Op.pick (Operand.tmp 44) (Operand.tmp 47) (Operand.const (Value.bool false)), type := 4, pos := "law.go:189", after := #[{ on := 7, ground := Ground.data }, { on := 10, ground := Ground.data }], guard := none }) (v := ?_) rfl (by kernel_rfl) (by kernel_rfl) (by kernel_rfl) (fun _ _ _ h => h) (Or.inl ⟨by rfl, ?hy11⟩) (by assumption) ?_
          case hy11 => (intro w hSw; (try dsimp only at hSw); go_simp); (try with_reducible rfl)
          try simp only [Act.put, List.setIfInBounds_toArray, List.set_cons_zero, List.set_cons_succ]
          refine wpAnyH_take (i := 12) (oi := { dst := some 49, op := Op.move (Operand.tmp 48), type := 4, pos := "law.go:189", after := #[{ on := 11, ground := Ground.data }, { on := 7, ground := Ground.chain }], guard := none }) (v := ?_) rfl (by kernel_rfl) (by kernel_rfl) (by kernel_rfl) (fun _ _ _ h => h) (Or.inl ⟨by rfl, ?hy12⟩) (by assumption) ?_
          case hy12 => (intro w hSw; (try dsimp only at hSw); go_simp); (try with_reducible rfl)
          try simp only [Act.put, List.setIfInBounds_toArray, List.set_cons_zero, List.set_cons_succ]
          refine wpAnyH_take (i := 13) (oi := { dst := some 50, op := Op.move (Operand.tmp 8), type := 29, pos := "law.go:189", after := #[{ on := 12, ground := Ground.guard }], guard := some (12, true) }) (v := ?_) rfl (by kernel_rfl) (by kernel_rfl) (by kernel_rfl) (fun _ _ _ h => h) (Or.inl ⟨by rfl, ?hy13⟩) (by assumption) ?_
          case hy13 => (intro w hSw; (try dsimp only at hSw); go_simp); (try with_reducible rfl)
          try simp only [Act.put, List.setIfInBounds_toArray, List.set_cons_zero, List.set_cons_succ]
          refine wpAnyH_take (i := 14) (oi := { dst := some 51, op := Op.indexAddr 29 (Operand.tmp 50) (Operand.const (Value.int IntKind.i64 0)), type := 0, pos := "law.go:189", after := #[{ on := 13, ground := Ground.data }, { on := 12, ground := Ground.guard }], guard := some (12, true) }) (v := ?_) rfl (by kernel_rfl) (by kernel_rfl) (by kernel_rfl) (fun _ _ _ h => h) (Or.inl ⟨by rfl, ?hy14⟩) (by assumption) ?_
          case hy14 => (intro w hSw; (try dsimp only at hSw); go_simp); (try with_reducible rfl)
          try simp only [Act.put, List.setIfInBounds_toArray, List.set_cons_zero, List.set_cons_succ]
          refine wpAnyH_take (i := 15) (oi := { dst := some 52, op := Op.load 9 (Operand.tmp 51), type := 9, pos := "law.go:189", after := #[{ on := 14, ground := Ground.data }, { on := 12, ground := Ground.guard }], guard := some (12, true) }) (v := ?_) rfl (by kernel_rfl) (by kernel_rfl) (by kernel_rfl) (fun _ _ _ h => h) (Or.inl ⟨by rfl, ?hy15⟩) (by assumption) ?_
          case hy15 => (intro w hSw; (try dsimp only at hSw); go_simp); (try with_reducible rfl)
          try simp only [Act.put, List.setIfInBounds_toArray, List.set_cons_zero, List.set_cons_succ]
          refine wpAnyH_take (i := 16) (oi := { dst := some 53, op := Op.fieldAddr 28 (Operand.tmp 3) 2, type := 0, pos := "law.go:189", after := #[{ on := 12, ground := Ground.guard }], guard := some (12, true) }) (v := ?_) rfl (by kernel_rfl) (by kernel_rfl) (by kernel_rfl) (fun _ _ _ h => h) (Or.inl ⟨by rfl, ?hy16⟩) (by assumption) ?_
          case hy16 => (intro w hSw; (try dsimp only at hSw); go_simp); (try with_reducible rfl)
          try simp only [Act.put, List.setIfInBounds_toArray, List.set_cons_zero, List.set_cons_succ]
          refine wpAnyH_take (i := 17) (oi := { dst := some 54, op := Op.load 9 (Operand.tmp 53), type := 9, pos := "law.go:189", after := #[{ on := 16, ground := Ground.data }, { on := 12, ground := Ground.guard }], guard := some (12, true) }) (v := ?_) rfl (by kernel_rfl) (by kernel_rfl) (by kernel_rfl) (fun _ _ _ h => h) (Or.inl ⟨by rfl, ?hy17⟩) (by assumption) ?_
          case hy17 => (intro w hSw; (try dsimp only at hSw); go_simp); (try with_reducible rfl)
          try simp only [Act.put, List.setIfInBounds_toArray, List.set_cons_zero, List.set_cons_succ]
          refine wpAnyH_take (i := 18) (oi := { dst := some 55, op := Op.binOp BinOp.eql 9 (Operand.tmp 52) (Operand.tmp 54) 9, type := 4, pos := "law.go:189", after := #[{ on := 15, ground := Ground.data }, { on := 17, ground := Ground.data }, { on := 12, ground := Ground.guard }], guard := some (12, true) }) (v := ?_) rfl (by kernel_rfl) (by kernel_rfl) (by kernel_rfl) (fun _ _ _ h => h) (Or.inl ⟨by rfl, ?hy18⟩) (by assumption) ?_
          case hy18 => (intro w hSw; (try dsimp only at hSw); go_simp); (try with_reducible rfl)
          try simp only [Act.put, List.setIfInBounds_toArray, List.set_cons_zero, List.set_cons_succ]
          refine wpAnyH_take (i := 19) (oi := { dst := some 56, op := Op.pick (Operand.tmp 49) (Operand.tmp 55) (Operand.const (Value.bool false)), type := 4, pos := "law.go:189", after := #[{ on := 12, ground := Ground.data }, { on := 18, ground := Ground.data }], guard := none }) (v := ?_) rfl (by kernel_rfl) (by kernel_rfl) (by kernel_rfl) (fun _ _ _ h => h) (Or.inl ⟨by rfl, ?hy19⟩) (by assumption) ?_
          case hy19 => (intro w hSw; (try dsimp only at hSw); go_simp); (try with_reducible rfl)
          try simp only [Act.put, List.setIfInBounds_toArray, List.set_cons_zero, List.set_cons_succ]
          refine wpAnyH_take (i := 20) (oi := { dst := some 57, op := Op.move (Operand.tmp 56), type := 4, pos := "law.go:189", after := #[{ on := 19, ground := Ground.data }, { on := 12, ground := Ground.chain }], guard := none }) (v := ?_) rfl (by kernel_rfl) (by kernel_rfl) (by kernel_rfl) (fun _ _ _ h => h) (Or.inl ⟨by rfl, ?hy20⟩) (by assumption) ?_
          case hy20 => (intro w hSw; (try dsimp only at hSw); go_simp); (try with_reducible rfl)
          try simp only [Act.put, List.setIfInBounds_toArray, List.set_cons_zero, List.set_cons_succ]
          refine wpAnyH_take (i := 21) (oi := { dst := some 58, op := Op.move (Operand.tmp 5), type := 25, pos := "law.go:189", after := #[{ on := 20, ground := Ground.guard }], guard := some (20, true) }) (v := ?_) rfl (by kernel_rfl) (by kernel_rfl) (by kernel_rfl) (fun _ _ _ h => h) (Or.inl ⟨by rfl, ?hy21⟩) (by assumption) ?_
          case hy21 => (intro w hSw; (try dsimp only at hSw); go_simp); (try with_reducible rfl)
          try simp only [Act.put, List.setIfInBounds_toArray, List.set_cons_zero, List.set_cons_succ]
          refine wpAnyH_take (i := 24) (oi := { dst := some 61, op := Op.move (Operand.tmp 0), type := 22, pos := "law.go:189", after := #[{ on := 20, ground := Ground.guard }], guard := some (20, true) }) (v := ?_) rfl (by kernel_rfl) (by kernel_rfl) (by kernel_rfl) (fun _ _ _ h => h) (Or.inl ⟨by rfl, ?hy24⟩) (by assumption) ?_
          case hy24 => (intro w hSw; (try dsimp only at hSw); go_simp); (try with_reducible rfl)
          try simp only [Act.put, List.setIfInBounds_toArray, List.set_cons_zero, List.set_cons_succ]
          refine wpAnyH_ready (rs := [22]) (by kernel_rfl) (by simp) ?_
          refine AllReadyH.cons (o := { dst := some 59, op := Op.call { callee := Callee.value (Operand.func 18), args := #[Operand.tmp 58], argTypes := #[25] }, type := 39, pos := "law.go:189", after := #[{ on := 21, ground := Ground.data }, { on := 20, ground := Ground.chain }, { on := 20, ground := Ground.guard }], guard := some (20, true) }) rfl (fun K hK => ?_) AllReadyH.nil
          go_simp
          refine (HgEntries_calls w11 (HGO.out.later D11) (by omega)).mono ?_
          rintro y w12 ⟨A12, c12, rfl, hr12, b12⟩
          have D12 : Below w8.heap.size w8 w12 := D11.trans (b12.mono D11.size)
          have HR12 := Lib.hid hr12.rdS.1
          refine hK.out _ _ ⟨Lib.hid D12, FC _ D12⟩ (fun hHeld => ?_)
          clear hK K
          try simp only [Act.put, List.setIfInBounds_toArray, List.set_cons_zero, List.set_cons_succ]
          refine wpAnyH_ready (rs := [23]) (by kernel_rfl) (by simp) ?_
          refine AllReadyH.cons (o := { dst := some 60, op := Op.call { callee := Callee.value (Operand.func 17), args := #[Operand.tmp 59], argTypes := #[39] }, type := 22, pos := "law.go:189", after := #[{ on := 22, ground := Ground.data }, { on := 22, ground := Ground.chain }, { on := 20, ground := Ground.guard }], guard := some (20, true) }) rfl (fun K hK => ?_) AllReadyH.nil
          go_simp
          refine (Old_calls w12 A12 c12 L HR12.out (by omega)).mono ?_
          rintro y w13 ⟨A13, c13, rfl, hr13, b13⟩
          have D13 : Below w8.heap.size w8 w13 := D12.trans (b13.mono D12.size)
          have HR13 := Lib.hid hr13.rdS.1
          refine hK.out _ _ ⟨Lib.hid D13, FC _ D13⟩ (fun hHeld => ?_)
          clear hK K
          try simp only [Act.put, List.setIfInBounds_toArray, List.set_cons_zero, List.set_cons_succ]
          refine wpAnyH_ready (rs := [25]) (by kernel_rfl) (by simp) ?_
          refine AllReadyH.cons (o := { dst := some 62, op := Op.call { callee := Callee.value (Operand.func 26), args := #[Operand.tmp 61], argTypes := #[22] }, type := 22, pos := "law.go:189", after := #[{ on := 24, ground := Ground.data }, { on := 23, ground := Ground.chain }, { on := 20, ground := Ground.guard }], guard := some (20, true) }) rfl (fun K hK => ?_) AllReadyH.nil
          go_simp
          refine (HROF.out w13 (HBW8.out.trans (D13.mono HBW8.out.size))).mono ?_
          rintro y w14 ⟨A14, c14, rfl, hr14, b14⟩
          have D14 : Below w8.heap.size w8 w14 := D13.trans (b14.mono D13.size)
          have HR14 := Lib.hid hr14.rdS.1
          have HR13 := Lib.hid (HR13.out.later b14)
          refine hK.out _ _ ⟨Lib.hid D14, FC _ D14⟩ (fun hHeld => ?_)
          clear hK K
          try simp only [Act.put, List.setIfInBounds_toArray, List.set_cons_zero, List.set_cons_succ]
          refine wpAnyH_ready (rs := [26]) (by kernel_rfl) (by simp) ?_
          refine AllReadyH.cons (o := { dst := some 63, op := Op.call { callee := Callee.value (Operand.func 16), args := #[Operand.tmp 60, Operand.tmp 62], argTypes := #[22, 22] }, type := 4, pos := "law.go:189", after := #[{ on := 23, ground := Ground.data }, { on := 25, ground := Ground.data }, { on := 25, ground := Ground.chain }, { on := 20, ground := Ground.guard }], guard := some (20, true) }) rfl (fun K hK => ?_) AllReadyH.nil
          go_simp
          refine (Same_self w14 A13 c13 L A14 c14 HR13.out HR14.out (by omega)).mono ?_
          rintro y w15 ⟨rfl, b15⟩
          have D15 : Below w8.heap.size w8 w15 := D14.trans (b15.mono D14.size)
          refine hK.out _ _ ⟨Lib.hid D15, FC _ D15⟩ (fun hHeld => ?_)
          clear hK K
          try simp only [Act.put, List.setIfInBounds_toArray, List.set_cons_zero, List.set_cons_succ]
          refine wpAnyH_take (i := 27) (oi := { dst := some 64, op := Op.pick (Operand.tmp 57) (Operand.tmp 63) (Operand.const (Value.bool false)), type := 4, pos := "law.go:189", after := #[{ on := 20, ground := Ground.data }, { on := 26, ground := Ground.data }], guard := none }) (v := ?_) rfl (by kernel_rfl) (by kernel_rfl) (by kernel_rfl) (fun _ _ _ h => h) (Or.inl ⟨by rfl, ?hy27⟩) (by assumption) ?_
          case hy27 => (intro w hSw; (try dsimp only at hSw); go_simp); (try with_reducible rfl)
          try simp only [Act.put, List.setIfInBounds_toArray, List.set_cons_zero, List.set_cons_succ]
          refine wpAnyH_take (i := 28) (oi := { dst := some 4, op := Op.assign (Operand.tmp 64), type := 4, pos := "law.go:189", after := #[{ on := 27, ground := Ground.data }, { on := 26, ground := Ground.chain }, { on := 0, ground := Ground.phase }, { on := 1, ground := Ground.phase }, { on := 2, ground := Ground.phase }, { on := 3, ground := Ground.phase }, { on := 4, ground := Ground.phase }, { on := 5, ground := Ground.phase }, { on := 6, ground := Ground.phase }, { on := 7, ground := Ground.phase }, { on := 8, ground := Ground.phase }, { on := 9, ground := Ground.phase }, { on := 10, ground := Ground.phase }, { on := 11, ground := Ground.phase }, { on := 12, ground := Ground.phase }, { on := 13, ground := Ground.phase }, { on := 14, ground := Ground.phase }, { on := 15, ground := Ground.phase }, { on := 16, ground := Ground.phase }, { on := 17, ground := Ground.phase }, { on := 18, ground := Ground.phase }, { on := 19, ground := Ground.phase }, { on := 20, ground := Ground.phase }, { on := 21, ground := Ground.phase }, { on := 22, ground := Ground.phase }, { on := 23, ground := Ground.phase }, { on := 24, ground := Ground.phase }, { on := 25, ground := Ground.phase }, { on := 26, ground := Ground.phase }, { on := 27, ground := Ground.phase }], guard := none }) (v := ?_) rfl (by kernel_rfl) (by kernel_rfl) (by kernel_rfl) (fun _ _ _ h => h) (Or.inl ⟨by rfl, ?hy28⟩) (by assumption) ?_
          case hy28 => (intro w hSw; (try dsimp only at hSw); go_simp); (try with_reducible rfl)
          try simp only [Act.put, List.setIfInBounds_toArray, List.set_cons_zero, List.set_cons_succ]
          refine wpAnyH_done (by kernel_rfl) ?_ _
          go_wp2
          go_ret
          exact ⟨rfl, HBW8.out.trans (D15.mono HBW8.out.size)⟩
end Go.Proofs.YtpemjhghiccngaaDoor
