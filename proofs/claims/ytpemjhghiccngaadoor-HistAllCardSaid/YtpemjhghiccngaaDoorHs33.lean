import Derived.Test.YtpemjhghiccngaaDoorHs28
namespace Go.Proofs.YtpemjhghiccngaaDoor
set_option linter.unusedVariables false
set_option linter.unusedSimpArgs false
open Go.RowKit Go.Shelf
/-! HistAll. -/
theorem rref_not_in {w : World} {hb : Nat} {l : List EntT} {c : List Bs} {fp : List Nat} (h : Hi w hb l c fp) {B : Nat} {v : Value} {n : Nat} {xs : List Value} (hr : Row w B 28 3 v n xs) : ∀ g, v.ownBlock = some g → g ∉ fp := by
  intro g hg
  obtain ⟨cur, hc⟩ := hr.blk hg
  exact h.not_in hc (by decide) (by decide) (by decide)
theorem codeP_cases (e : EntT) : (rightE e = true ∧ codeP e = 0) ∨ (rightE e = false ∧ codeP e = 160) := by
  unfold codeP
  cases rightE e <;> simp
set_option maxHeartbeats 6400000 in
set_option maxRecDepth 100000 in
theorem HistAll_walk (w : World) (A : Option Addr) (c : Nat) (l : List EntT) (hi : In15 w A l) :
    Calls Tryd.prog 3 #[.slice A l.length c] w fun e w' => e = .returned (.bool true) ∧ Below w.heap.size w w' := by
  have HI := Lib.hid hi
  have hfew := Lib.hid (few15_calls w A c l hi.rd hi.blk hi.len hi.keys)
  clear hi
  obtain ⟨b, hb⟩ : ∃ b, b = fewE l := ⟨_, rfl⟩
  rw [← hb] at hfew
  cases b with
  | false =>
    clear hb
    go_enter Tryd.func3, Tryd.ntmps3
    go_wp2_with fail
    refine hfew.out.mono ?_
    rintro e w1 ⟨rfl, b1⟩
    go_wp2_with fail
    refine (al15_calls w1 (HI.out.u8.later b1)).mono ?_
    rintro e w2 ⟨rfl, b2⟩
    go_wp2
    go_ret
    exact ⟨rfl, b1.trans (b2.mono b1.size)⟩
  | true =>
    have HF := Lib.hid hb.symm
    clear hb
    have hl120 := (few_small HF.out).1
    go_enter Tryd.func3, Tryd.ntmps3
    go_wp2_with fail
    refine hfew.out.mono ?_
    rintro e w1 ⟨rfl, b1⟩
    have HB1 := Lib.hid b1
    clear b1
    go_wp2_with fail
    refine (HNew_calls w1).mono ?_
    rintro e w2 ⟨rfl, h2, b2⟩
    obtain ⟨hb, hhb⟩ : ∃ hb, hb = w1.heap.size := ⟨_, rfl⟩
    rw [show hptr w1.heap.size = hptr hb by rw [hhb]]
    have HH2 : Hid (Hi w2 hb [] [] [hb]) := Lib.hid (by rw [hhb]; exact h2)
    have HHB := Lib.hid hhb
    have HB2 := Lib.hid (HB1.out.trans (b2.mono HB1.out.size))
    have HS12 := Lib.hid b2.size
    clear h2 b2 hhb
    go_wp2
    go_loopw [4, 21] (fun u4 u21 wr => ∃ (k : Nat) (L : List EntT) (A4 : Option Addr) (c4 : Nat), u21 = n64 k ∧ k ≤ l.length ∧ u4 = .slice A4 L.length c4 ∧ Hid (L = ofL (l.take k)) ∧ Hid (Hg w1.heap.size wr hb L) ∧ Hid (w1.heap.size ≤ wr.heap.size) ∧ Hid (RowR wr w1.heap.size (.slice A4 L.length c4) L) ∧ Hid (Below w.heap.size w wr)) (fun _ u21 _ => (l.length - intOf u21).toNat)
    case atStart => exact ⟨0, [], none, 0, rfl, Nat.zero_le _, rfl, Lib.hid rfl, Lib.hid ⟨[], [hb], HH2.out, InvC.nil, fun b h => by rw [List.mem_singleton.1 h, HHB.out]; exact Nat.le_refl _⟩, HS12, Lib.hid (Row.nil _ _ _ _), HB2⟩
    case round =>
      obtain ⟨k, L, A4, c4, rfl, hk, rfl, HL, HG, HSZ, HR, HB⟩ := hrel
      by_cases hlt : k < l.length
      · obtain ⟨x, hx⟩ : ∃ x, l[k]? = some x := ⟨_, List.getElem?_eq_getElem hlt⟩
        obtain ⟨g, off, rfl, v0, v1, v2⟩ := RdE.at (HI.out.rd.later HB.out) hx
        have hst := ofL_step hx
        rw [← HL.out] at hst
        have hsm := few_smallE HF.out x (List.mem_of_getElem? hx)
        have hLl : L.length ≤ 120 := by rw [HL.out]; have := (ofL_sub (l.take k)).length_le; rw [List.length_take] at this; omega
        obtain ⟨C, fp, hh, hinv, hfp⟩ := HG.out
        have hCl : C.length ≤ 120 := by rw [hinv.len]; have := cmdsE_len L; omega
        obtain ⟨wv, ev, hv, bv⟩ := new_ent wr x 28
        obtain ⟨q0, q1, q2⟩ := ent_cells hv
        have bW := HB.out.trans (bv.mono HB.out.size)
        have hsv : w1.heap.size ≤ wv.heap.size := Nat.le_trans HSZ.out bv.size
        have hRv : RowR wv w1.heap.size (.slice A4 L.length c4) L := HR.out.below bv (Nat.le_refl _)
        have q := rAdd_calls wv (HI.out.u8.later bW) w1.heap.size A4 c4 L hRv hsv (by omega) x hsm.1 hsm.2
        have q2' := fun (W : World) (h : U8 W) (h2 : Hi W hb L C fp) => HAdd_calls W h h2 (by omega) (by omega) x hsm.1 hsm.2
        unfold entV at q q2'
        have Q := Lib.hid q
        have Q2 := Lib.hid q2'
        have HEV := Lib.hid ev
        have HV := Lib.hid hv
        have b1 : (k : Int) < (l.length : Int) := by omega
        have HST0 := Lib.hid hst
        have HBW := Lib.hid bW
        have HSV := Lib.hid hsv
        have HHV := Lib.hid (hh.later bv)
        have HLT := Lib.hid (fun b (h : b ∈ fp) => Nat.lt_of_lt_of_le (hh.lt b h) bv.size)
        have HINV := Lib.hid hinv
        have HFP := Lib.hid hfp
        have hML : (addL L x).length ≤ 121 := Nat.le_trans (addL_len L x) (by omega)
        have HML := Lib.hid hML
        clear hx hst hsm q q2' ev hv bv bW hsv hRv hh hinv hfp hML
        go_wp2_with fail
        rw [HEV.out]
        refine Q.out.mono ?_
        rintro y w5 ⟨A5, c5, v5, rfl, hW5, hg5, b5⟩
        obtain ⟨A5', c5', rfl, _, _, hr5, hn5⟩ := id hg5.rd
        have hv5 := keepB HV.out b5
        obtain ⟨q0, q1, q2⟩ := ent_cells hv5
        have HH5 := Lib.hid (HHV.out.later b5)
        have HB5 := Lib.hid (HBW.out.trans (b5.mono HBW.out.size))
        have hS5 := Nat.le_trans HSV.out b5.size
        have HS5 := Lib.hid hS5
        have HW5 := Lib.hid hW5
        have HR5 := Lib.hid hr5
        have HN5 := Lib.hid hn5
        have HHB5 := Lib.hid (HB5.out.size)
        clear v0 v1 v2 hg5 b5 hr5 hn5 hv5 hW5 hS5
        go_wp2_with fail
        refine (Q2.out w5 (HI.out.u8.later HB5.out) HH5.out).mono ?_
        rintro y w6 ⟨A6, c6, fp6, rfl, hr6, hh6, hf6, hfp6⟩
        obtain ⟨m1, m2, m3⟩ := add_both HINV.out x
        rw [m1] at hh6
        rw [m2] at hr6
        rw [m2]
        have hs56 := hf6.size
        have hG : (goneL L x).length ≤ 1 := by
          unfold goneL
          split
          · split <;> simp
          · simp
        have HG6 : Hid (Hg w1.heap.size w6 hb (addL L x)) := Lib.hid ⟨_, fp6, hh6, m3, fun b h => by
          rcases hfp6 b h with e | e
          · exact HFP.out b e
          · have := HS5.out; omega⟩
        have HW6 : Hid (RowR w6 w1.heap.size (.slice A5 (addL L x).length c5) (addL L x)) := Lib.hid (HW5.out.at_ fun g hg => hf6.block g (HW5.out.lt g hg).2 (rref_not_in HH5.out HW5.out g hg))
        have HR5 := Lib.hid (HR5.out.fr hf6 fun a ha _ hm => by
          have h1 := HLT.out a.block hm
          have h2 := HN5.out a ha
          omega)
        have HR6 := Lib.hid hr6.rdS.1
        have HB6 : Hid (Below w.heap.size w w6) := Lib.hid (HB5.out.trans (hf6.below HB5.out.size fun b hb hm => by
          have h1 := HFP.out b hm
          have h2 := HB1.out.size
          omega))
        have HSZ6 := Lib.hid (Nat.le_trans HS5.out hs56)
        have HCL := Lib.hid (cmdsE_len (addL L x))
        obtain ⟨M, hM⟩ : ∃ M, M = addL L x := ⟨_, rfl⟩
        have HST : Hid (M = ofL (l.take (k + 1))) := Lib.hid (by rw [hM, HST0.out])
        obtain ⟨G, hGe⟩ : ∃ G, G = goneL L x := ⟨_, rfl⟩
        have hml := HML.out
        have hcl := HCL.out
        rw [← hM] at hml hcl HG6 HW6 ⊢
        rw [← hGe] at hG HR5 HR6 ⊢
        clear q0 q1 q2 hr6 hh6 hf6 hfp6 m1 m2 m3 hM hGe HW5 HML HCL hs56
        rcases codeP_cases x with ⟨e1, e2⟩ | ⟨e1, e2⟩
        · rw [e1, e2]
          clear e1 e2
          go_wp2_with fail
          refine (texts_self w6 A6 c6 G A5' c5' HR6.out HR5.out (by omega)).mono ?_
          rintro e w7 ⟨rfl, b7⟩
          have HG7 := Lib.hid (HG6.out.later b7)
          have HW7 := Lib.hid (HW6.out.below b7 (Nat.le_refl _))
          have HB7 := Lib.hid (HB6.out.trans (b7.mono HB6.out.size))
          have HSZ7 := Lib.hid (Nat.le_trans HSZ6.out b7.size)
          clear b7
          go_wp2_with fail
          refine (HgEntries_calls w7 HG7.out (by omega)).mono ?_
          rintro e w8 ⟨A8, c8, rfl, hr8, b8⟩
          have HG8 := Lib.hid (HG7.out.later b8)
          have HW8 := Lib.hid (HW7.out.below b8 (Nat.le_refl _))
          have HB8 := Lib.hid (HB7.out.trans (b8.mono HB7.out.size))
          have HSZ8 := Lib.hid (Nat.le_trans HSZ7.out b8.size)
          have Q8 := Lib.hid (Old_calls w8 A8 c8 M hr8.rdS.1 (by omega))
          clear b8 hr8
          go_wp2_with fail
          refine Q8.out.mono ?_
          rintro e w9 ⟨A9, c9, rfl, hr9, b9⟩
          have HG9 := Lib.hid (HG8.out.later b9)
          have HW9 := Lib.hid (HW8.out.below b9 (Nat.le_refl _))
          have HB9 := Lib.hid (HB8.out.trans (b9.mono HB8.out.size))
          have HSZ9 := Lib.hid (Nat.le_trans HSZ8.out b9.size)
          have Q9 := Lib.hid (Same_self w9 A9 c9 M A5 c5 hr9.rdS.1 HW9.out.rdS.1 (by omega))
          clear b9 hr9
          go_wp2_with fail
          refine Q9.out.mono ?_
          rintro e w10 ⟨rfl, b10⟩
          have HG10 := Lib.hid (HG9.out.later b10)
          have HW10 := Lib.hid (HW9.out.below b10 (Nat.le_refl _))
          have HB10 := Lib.hid (HB9.out.trans (b10.mono HB9.out.size))
          have HSZ10 := Lib.hid (Nat.le_trans HSZ9.out b10.size)
          clear b10
          go_wp2_with fail
          refine (HgCmds_calls w10 HG10.out (by omega)).mono ?_
          rintro e w11 ⟨A11, c11, rfl, hr11, b11⟩
          have HR11 := Lib.hid hr11.rdS.1
          have HG11 := Lib.hid (HG10.out.later b11)
          have HW11 := Lib.hid (HW10.out.below b11 (Nat.le_refl _))
          have HB11 := Lib.hid (HB10.out.trans (b11.mono HB10.out.size))
          have HSZ11 := Lib.hid (Nat.le_trans HSZ10.out b11.size)
          clear b11 hr11
          go_wp2_with fail
          refine (rCmds_calls w11 A5 c5 M HW11.out.rdS.1 (by omega)).mono ?_
          rintro e w12 ⟨A12, c12, rfl, hr12, b12⟩
          have HG12 := Lib.hid (HG11.out.later b12)
          have HW12 := Lib.hid (HW11.out.below b12 (Nat.le_refl _))
          have HB12 := Lib.hid (HB11.out.trans (b12.mono HB11.out.size))
          have HSZ12 := Lib.hid (Nat.le_trans HSZ11.out b12.size)
          have Q12 := Lib.hid (texts_self w12 A11 c11 (cmdsE M) A12 c12 (HR11.out.later b12) hr12.rdS.1 (by omega))
          clear b12 hr12
          go_wp2_with fail
          refine Q12.out.mono ?_
          rintro e w13 ⟨rfl, b13⟩
          have HG13 := Lib.hid (HG12.out.later b13)
          have HW13 := Lib.hid (HW12.out.below b13 (Nat.le_refl _))
          have HB13 := Lib.hid (HB12.out.trans (b13.mono HB12.out.size))
          have HSZ13 := Lib.hid (Nat.le_trans HSZ12.out b13.size)
          clear b13
          go_wp2_with fail
          refine (HgLen_calls w13 HG13.out (by omega)).mono ?_
          rintro e w14 ⟨rfl, rfl⟩
          go_wp2_with fail
          refine (rCmds_calls w13 A5 c5 M HW13.out.rdS.1 (by omega)).mono ?_
          rintro e w14 ⟨A14, c14, rfl, _, b14⟩
          have HG14 := Lib.hid (HG13.out.later b14)
          have HW14 := Lib.hid (HW13.out.below b14 (Nat.le_refl _))
          have HB14 := Lib.hid (HB13.out.trans (b14.mono HB13.out.size))
          have HSZ14 := Lib.hid (Nat.le_trans HSZ13.out b14.size)
          clear b14
          go_wp2
          go_roundw
          case rel => exact ⟨k + 1, M, A5, c5, by go_num, by omega, rfl, HST, HG14, HSZ14, HW14, HB14⟩
          case measure => simp [intOf]; omega
        · rw [e1, e2]
          clear e1 e2
          go_wp2_with fail
          refine (texts_self w6 A6 c6 G A5' c5' HR6.out HR5.out (by omega)).mono ?_
          rintro e w7 ⟨rfl, b7⟩
          have HG7 := Lib.hid (HG6.out.later b7)
          have HW7 := Lib.hid (HW6.out.below b7 (Nat.le_refl _))
          have HB7 := Lib.hid (HB6.out.trans (b7.mono HB6.out.size))
          have HSZ7 := Lib.hid (Nat.le_trans HSZ6.out b7.size)
          clear b7
          go_wp2_with fail
          refine (HgEntries_calls w7 HG7.out (by omega)).mono ?_
          rintro e w8 ⟨A8, c8, rfl, hr8, b8⟩
          have HG8 := Lib.hid (HG7.out.later b8)
          have HW8 := Lib.hid (HW7.out.below b8 (Nat.le_refl _))
          have HB8 := Lib.hid (HB7.out.trans (b8.mono HB7.out.size))
          have HSZ8 := Lib.hid (Nat.le_trans HSZ7.out b8.size)
          have Q8 := Lib.hid (Old_calls w8 A8 c8 M hr8.rdS.1 (by omega))
          clear b8 hr8
          go_wp2_with fail
          refine Q8.out.mono ?_
          rintro e w9 ⟨A9, c9, rfl, hr9, b9⟩
          have HG9 := Lib.hid (HG8.out.later b9)
          have HW9 := Lib.hid (HW8.out.below b9 (Nat.le_refl _))
          have HB9 := Lib.hid (HB8.out.trans (b9.mono HB8.out.size))
          have HSZ9 := Lib.hid (Nat.le_trans HSZ8.out b9.size)
          have Q9 := Lib.hid (Same_self w9 A9 c9 M A5 c5 hr9.rdS.1 HW9.out.rdS.1 (by omega))
          clear b9 hr9
          go_wp2_with fail
          refine Q9.out.mono ?_
          rintro e w10 ⟨rfl, b10⟩
          have HG10 := Lib.hid (HG9.out.later b10)
          have HW10 := Lib.hid (HW9.out.below b10 (Nat.le_refl _))
          have HB10 := Lib.hid (HB9.out.trans (b10.mono HB9.out.size))
          have HSZ10 := Lib.hid (Nat.le_trans HSZ9.out b10.size)
          clear b10
          go_wp2_with fail
          refine (HgCmds_calls w10 HG10.out (by omega)).mono ?_
          rintro e w11 ⟨A11, c11, rfl, hr11, b11⟩
          have HR11 := Lib.hid hr11.rdS.1
          have HG11 := Lib.hid (HG10.out.later b11)
          have HW11 := Lib.hid (HW10.out.below b11 (Nat.le_refl _))
          have HB11 := Lib.hid (HB10.out.trans (b11.mono HB10.out.size))
          have HSZ11 := Lib.hid (Nat.le_trans HSZ10.out b11.size)
          clear b11 hr11
          go_wp2_with fail
          refine (rCmds_calls w11 A5 c5 M HW11.out.rdS.1 (by omega)).mono ?_
          rintro e w12 ⟨A12, c12, rfl, hr12, b12⟩
          have HG12 := Lib.hid (HG11.out.later b12)
          have HW12 := Lib.hid (HW11.out.below b12 (Nat.le_refl _))
          have HB12 := Lib.hid (HB11.out.trans (b12.mono HB11.out.size))
          have HSZ12 := Lib.hid (Nat.le_trans HSZ11.out b12.size)
          have Q12 := Lib.hid (texts_self w12 A11 c11 (cmdsE M) A12 c12 (HR11.out.later b12) hr12.rdS.1 (by omega))
          clear b12 hr12
          go_wp2_with fail
          refine Q12.out.mono ?_
          rintro e w13 ⟨rfl, b13⟩
          have HG13 := Lib.hid (HG12.out.later b13)
          have HW13 := Lib.hid (HW12.out.below b13 (Nat.le_refl _))
          have HB13 := Lib.hid (HB12.out.trans (b13.mono HB12.out.size))
          have HSZ13 := Lib.hid (Nat.le_trans HSZ12.out b13.size)
          clear b13
          go_wp2_with fail
          refine (HgLen_calls w13 HG13.out (by omega)).mono ?_
          rintro e w14 ⟨rfl, rfl⟩
          go_wp2_with fail
          refine (rCmds_calls w13 A5 c5 M HW13.out.rdS.1 (by omega)).mono ?_
          rintro e w14 ⟨A14, c14, rfl, _, b14⟩
          have HG14 := Lib.hid (HG13.out.later b14)
          have HW14 := Lib.hid (HW13.out.below b14 (Nat.le_refl _))
          have HB14 := Lib.hid (HB13.out.trans (b14.mono HB13.out.size))
          have HSZ14 := Lib.hid (Nat.le_trans HSZ13.out b14.size)
          clear b14
          go_wp2
          go_roundw
          case rel => exact ⟨k + 1, M, A5, c5, by go_num, by omega, rfl, HST, HG14, HSZ14, HW14, HB14⟩
          case measure => simp [intOf]; omega
      · obtain rfl : k = l.length := by omega
        go_wp2_with fail
        refine (al15_calls wr (HI.out.u8.later HB.out)).mono ?_
        rintro e w6 ⟨rfl, b6⟩
        go_wp2
        go_ret
        exact ⟨rfl, HB.out.trans (b6.mono HB.out.size)⟩
end Go.Proofs.YtpemjhghiccngaaDoor
