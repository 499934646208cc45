import Derived.Test.YtpemjhghiccngaaDoorHs18
import Derived.Deep.RegionLaw
namespace Go.Proofs.YtpemjhghiccngaaDoor
set_option linter.unusedVariables false
set_option linter.unusedSimpArgs false
open Go.RowKit Go.Shelf
def AdL (w : World) (fp : List Nat) (hb eb : Nat) (e : EntT) (W : World) (L : List EntT) (C : List Bs) : Prop := ∃ vl vc, AdV w fp hb eb e W L C vl vc
theorem AdV.toL {w : World} {fp : List Nat} {hb eb : Nat} {e : EntT} {W : World} {L : List EntT} {C : List Bs} {vl vc : Value} (h : AdV w fp hb eb e W L C vl vc) : AdL w fp hb eb e W L C := ⟨_, _, h⟩
theorem flatE_add (l : List EntT) (e : EntT) : flatE l ++ entCells e = flatE (l ++ [e]) := by rw [flatE_app]; simp [flatE]
theorem map_add (c : List Bs) (x : Bs) : c.map str ++ [str x] = (c ++ [x]).map str := by simp
theorem own_some {v' v : Value} {H H' : Nat} (h : v'.ownBlock = v.ownBlock ∨ v'.ownBlock = some H) (hH : H' ≤ H) : v'.ownBlock = v.ownBlock ∨ ∃ g, v'.ownBlock = some g ∧ H' ≤ g := by
  rcases h with h | h
  · exact .inl h
  · exact .inr ⟨_, h, hH⟩
set_option maxRecDepth 100000 in
set_option maxHeartbeats 6400000 in
theorem HAdd_calls (w : World) (hU : U8 w) {hb : Nat} {l : List EntT} {c : List Bs} {fp : List Nat} (h : Hi w hb l c fp) (hl : l.length ≤ 100000) (hcl : c.length ≤ 100000) (e : EntT) (hd : e.d.length ≤ 1000000) (hc : e.c.length ≤ 1000000) :
    Calls Tryd.prog 14 #[hptr hb, entV e] w (HAddPost w hb l c fp e) := by
  obtain ⟨vl, vc, h1, rfl⟩ := h
  have hmf : ∀ (fn : Fn) (first cap : Array Value) (w : World), (Instr.makeFunc fn first cap).run Tryd.prog w = .ok (.func fn first cap) w := fun _ _ _ _ => rfl
  have q1 := fun (W : World) (h : U8 W) => JRight_calls e hd hc W h
  unfold entV at q1 ⊢
  obtain ⟨W0, eW, hb0, hB0⟩ := new_ent w e 35
  obtain ⟨x0, x1, x2⟩ := ent_cells hb0
  obtain ⟨fp, hfp⟩ : ∃ fp, fp = hb :: (rbH vl ++ rbH vc) := ⟨_, rfl⟩
  have hA0 : AdV w fp hb w.heap.size e W0 l c vl vc := ⟨h1.move fun k hk => hB0.block k (h1.lt k hk), fun b hb => .inl (by rw [hfp]; exact hb), fun hm => by have := h1.lt _ hm; omega, Fr.of_fresh hB0, hb0⟩
  rw [← hfp]
  have HW := Lib.hid eW
  have HA0 := Lib.hid hA0
  have HB0 := Lib.hid hB0
  have HU := Lib.hid hU
  have HI0 : Hid (Hi w hb l c fp) := Lib.hid ⟨vl, vc, h1, hfp⟩
  cases hri : rightE e with
  | false =>
    rw [hri] at q1
    have Q1 := Lib.hid q1
    have HRI := Lib.hid hri
    clear q1 eW hb0 hB0 hA0 hU hri hfp h1 hmf
    go_enter Tryd.func14, Tryd.ntmps14
    go_wp2_with fail
    rw [HW.out]
    refine (Q1.out W0 (HU.out.later HB0.out)).mono ?_
    rintro x w1 ⟨rfl, b1⟩
    go_wp2
    go_ret2
    have hbel := HB0.out.trans (b1.mono HB0.out.size)
    unfold HAddPost goneP codeP addPL addPC
    rw [HRI.out]
    exact ⟨none, 0, fp, rfl, Row.nil _ _ _ _, HI0.out.later hbel, Fr.of_fresh hbel, fun b h => .inl h⟩
  | true =>
    rw [hri] at q1
    have Q1 := Lib.hid q1
    have HRI := Lib.hid hri
    clear q1 hb0 hB0 hA0 hU hri hfp h1 HI0 eW
    go_enter Tryd.func14, Tryd.ntmps14
    go_wp2_with fail
    rw [HW.out]
    obtain ⟨eb, heb⟩ : ∃ eb, eb = w.heap.size := ⟨_, rfl⟩
    rw [← heb] at HA0 ⊢
    have HEB := Lib.hid heb
    clear heb
    refine (Q1.out W0 (HU.out.later HB0.out)).mono ?_
    rintro x w1 ⟨rfl, b1⟩
    have HA1 := Lib.hid (HA0.out.later b1)
    clear x0 x1 x2
    obtain ⟨x0, x1, x2⟩ := ent_cells HA1.out.en_
    obtain ⟨A, ca, rfl, _, _, _, _⟩ := HA1.out.at_.2.1.rd
    obtain ⟨A', ca', rfl, _, _, _, _⟩ := HA1.out.at_.2.2.rd
    obtain ⟨k0, k1, f0, f1⟩ := hi_cells HA1.out.at_.1
    have hbl := lt_of_heap HA1.out.at_.1
    have HE1 := Lib.hid (entC_one e)
    have hB1 : Hid (Below w.heap.size w w1) := Lib.hid (HB0.out.trans (b1.mono HB0.out.size))
    clear b1
    go_upto_region 4 with fail
    go_cut [6] (fun s6 wx => s6 = fnV 39 eb ∧ AdL w fp hb eb e wx (l ++ [e]) c)
    case first =>
      go_region_law (refine step_append_row _ (by rfl) _ _ _ (by rfl) 0 35 3 40 _ Tryd.underlying39 Tryd.info_ent rfl (by decide) (.slice A l.length ca) l.length (flatE l) (by rfl) ((Row.alloc (w := w1) HA1.out.at_.2.1 _).at_ (fun _ _ => rfl)) (some ⟨w1.heap.size, 0, none⟩) 1 1 (entCells e) (by rfl) rfl (rdNew _ _ _) HE1.out (by omega) (by simp only [maxLen]; omega) (Nat.zero_le _) ?_; intro A2 c2 w2 hrow2 hg2 hb2; have hF2 : Fr (fun k => (Value.slice A l.length ca).ownBlock = some k) w1 w2 := (Fr.of_fresh (S := fun k => (Value.slice A l.length ca).ownBlock = some k) (((Below.refl _ w1).drew).alloc (Nat.le_refl _) _)).trans (Fr.of_grown hg2) (fun _ _ e => e); have k2 := hF2.heap HA1.out.at_.1 (fun e => HA1.out.at_.ne.1 hb e rfl); obtain ⟨m0, m1, g0, g1⟩ := hi_cells k2)
      all_goals
        go_wp2_with fail
        go_meet
        refine ⟨rfl, ?_⟩
        have hl1 : l.length + 1 = (l ++ [e]).length := by simp
        rw [hl1] at hrow2 hb2 ⊢
        rw [flatE_add] at hrow2
        exact (HA1.out.setL hrow2 hF2 (own_some hb2 (by simp))).toL
    case rest =>
      obtain ⟨rfl, HL2⟩ := hcut
      obtain ⟨wx, rfl⟩ : ∃ wx, wx = wc := ⟨_, rfl⟩
      have hl1 : (l ++ [e]).length ≤ 100001 := by simp; omega
      obtain ⟨L, hL⟩ : ∃ L, L = l ++ [e] := ⟨_, rfl⟩
      have hL1 : addP1 l e = if 6 < (usesE L e.c).length then L.eraseIdx (L.findIdx fun x => decide (x.c = e.c)) else L := by unfold addP1; rw [hL]
      have hany : L.any (fun x => decide (x.c = e.c)) = true := by rw [hL]; simp
      have hcov : idxI L (fun x => decide (x.c = e.c)) = ((L.findIdx fun x => decide (x.c = e.c) : Nat) : Int) ∧ (L.findIdx fun x => decide (x.c = e.c)) < L.length := by
        refine ⟨by unfold idxI; rw [if_pos hany], List.findIdx_lt_length.2 ?_⟩
        simpa using hany
      rw [← hL] at HL2 hl1
      have HL2' := Lib.hid HL2
      have HLL := Lib.hid hL
      have HL1 := Lib.hid hL1
      have HCOV := Lib.hid hcov
      clear hL hL1 hany hcov HL2 k0 k1 f0 f1 x0 x1 x2 hbl
      obtain ⟨vl2, vc2, hA2⟩ := HL2'.out
      have HA2 := Lib.hid hA2
      obtain ⟨x0, x1, x2⟩ := ent_cells hA2.en_
      have q2 := HUses_calls wx (hb := hb) (l := L) (c := c) ⟨vl2, vc2, hA2.at_, rfl⟩ (by omega) e.c ⟨e.c.toArray⟩ rfl
      have Q2 := Lib.hid q2
      clear hA2 q2
      go_upto_if 28 with (go_at_call 24; (with_reducible refine Q2.out.mono ?_); rintro x w3 ⟨A3, c3, rfl, _, b3⟩; have HA3 := Lib.hid (HA2.out.later b3))
      go_cut [] (fun wx => AdL w fp hb eb e wx (addP1 l e) c)
      case first =>
        by_cases h6 : 6 < (usesE L e.c).length
        · have i1 : decide ((6 : Int) < ((usesE L e.c).length : Int)) = true := decide_eq_true (by omega)
          rw [i1]
          have hL1 : addP1 l e = L.eraseIdx (L.findIdx fun x => decide (x.c = e.c)) := by rw [HL1.out, if_pos h6]
          have hE1 := Lib.hid hL1
          obtain ⟨A2, c2, rfl, _, _, hrd, _⟩ := HA3.out.at_.2.1.rd
          obtain ⟨k0, k1, f0, f1⟩ := hi_cells HA3.out.at_.1
          have q3 := idxE_calls 39 eb (entO e 35) _ own1 (tells1 eb e) w3 HA3.out.en_ A2 c2 L hrd (by omega)
          rw [HCOV.out.1] at q3
          obtain ⟨k, hk⟩ : ∃ k, k = L.findIdx fun x => decide (x.c = e.c) := ⟨_, rfl⟩
          have hkl := HCOV.out.2
          rw [← hk] at q3 hE1 hkl
          have Q3 := Lib.hid q3
          have hk1 : (k : Int) ≤ 100001 := by omega
          have HB3 := Lib.hid b3
          clear q3 hk h6 hL1 hrd x0 x1 x2 b3 i1
          go_wp2_with fail
          refine Q3.out.mono ?_
          rintro x w4 ⟨rfl, b4⟩
          have HA4 := Lib.hid (HA3.out.later b4)
          clear k0 k1 f0 f1 b4
          obtain ⟨k0, k1, f0, f1⟩ := hi_cells HA4.out.at_.1
          have q4 := delE1_calls w4 (.slice A2 L.length c2) L HA4.out.at_.2.1 k hkl
          have Q4 := Lib.hid q4
          have hk0 : (0 : Int) ≤ (k : Int) := by omega
          clear q4
          go_wp2_with fail
          refine Q4.out.mono ?_
          rintro x w5 ⟨A5, c5, rfl, hr5, hg5, ho5⟩
          have hF5 : Fr (fun j => (Value.slice A2 L.length c2).ownBlock = some j) w4 w5 := Fr.of_grown hg5
          have hk5 := hF5.heap HA4.out.at_.1 (fun e => HA4.out.at_.ne.1 hb e rfl)
          clear k0 k1 f0 f1
          obtain ⟨k0, k1, f0, f1⟩ := hi_cells hk5
          have HR5 := Lib.hid hr5
          have HF5 := Lib.hid hF5
          have HO5 := Lib.hid ho5
          clear hr5 hg5 ho5 hk5 hF5
          go_wp2_with fail
          go_meet
          have hlen : L.length - 1 = (L.eraseIdx k).length := by rw [List.length_eraseIdx, if_pos hkl]
          have hr := HR5.out
          have ho := HO5.out
          rw [hlen] at hr ho ⊢
          rw [hE1.out]
          exact (HA4.out.setL hr HF5.out (.inl ho)).toL
        · have i1 : decide ((6 : Int) < ((usesE L e.c).length : Int)) = false := decide_eq_false (by omega)
          rw [i1]
          have hE1 : Hid (addP1 l e = L) := Lib.hid (by rw [HL1.out, if_neg h6])
          clear h6 x0 x1 x2 b3 i1
          go_wp2_with fail
          go_meet
          rw [hE1.out]
          exact HA3.out.toL
      case rest =>
        obtain ⟨wd, rfl⟩ : ∃ wd, wd = wc := ⟨_, rfl⟩
        obtain ⟨L1, hL1⟩ : ∃ L1, L1 = addP1 l e := ⟨_, rfl⟩
        have hL1l : L1.length ≤ 100001 := by
          rw [hL1, HL1.out]
          split
          · have := List.length_eraseIdx_le L (L.findIdx fun x => decide (x.c = e.c)); omega
          · exact hl1
        rw [← hL1] at hcut
        obtain ⟨vl5, vc5, hA5⟩ := hcut
        have HA5 := Lib.hid hA5
        have HL1' := Lib.hid hL1
        obtain ⟨A5, c5, rfl, _, _, _, _⟩ := hA5.at_.2.2.rd
        clear hA5 hL1 x0 x1 x2 b3
        obtain ⟨x0, x1, x2⟩ := ent_cells HA5.out.en_
        obtain ⟨k0, k1, f0, f1⟩ := hi_cells HA5.out.at_.1
        have q5 := delS_calls 43 eb (entO e 35) _ own2 (tells2 eb e) wd HA5.out.en_ A5 c5 c HA5.out.at_.2.2 (fun g hg e1 => HA5.out.eb_ (by rw [← e1]; exact List.mem_cons_of_mem _ (List.mem_append_right _ (rbH_mem hg)))) (by omega)
        obtain ⟨D, hD⟩ : ∃ D, D = c.filter fun x => !decide (x = e.c) := ⟨_, rfl⟩
        have hDl : D.length ≤ c.length := by rw [hD]; exact List.length_filter_le _ _
        rw [← hD] at q5
        have HD := Lib.hid hD
        have Q5 := Lib.hid q5
        clear q5 hD
        go_upto_region 9 with (go_at_call 42; (with_reducible refine Q5.out.mono ?_); rintro x w6 ⟨rfl, hr6, hF6⟩; have HR6 := Lib.hid hr6; have HF6 := Lib.hid hF6; have hk6 := hF6.heap HA5.out.at_.1 (fun e => HA5.out.at_.ne.2.1 hb e rfl); clear hr6 hF6 k0 k1 f0 f1; obtain ⟨k0, k1, f0, f1⟩ := hi_cells hk6; clear hk6)
        have HA6 := Lib.hid (HA5.out.setC HR6.out HF6.out (.inl (by rw [ownB, ownB])))
        obtain ⟨w7, hw7⟩ : ∃ W, W = w6.setCell ⟨hb, 1, none⟩ (.slice A5 D.length c5) := ⟨_, rfl⟩
        rw [← hw7] at HA6 ⊢
        clear hw7 k0 k1 f0 f1 x0 x1 x2
        obtain ⟨x0, x1, x2⟩ := ent_cells HA6.out.en_
        obtain ⟨k0, k1, f0, f1⟩ := hi_cells HA6.out.at_.1
        have hbl := lt_of_heap HA6.out.at_.1
        go_cut [] (fun wx => AdL w fp hb eb e wx L1 (cmdsP c e))
        case first =>
          go_region_law (refine step_append_row _ (by rfl) _ _ _ (by rfl) 0 9 1 16 _ Tryd.underlying29 Tryd.info_str rfl (by decide) (.slice A5 D.length c5) D.length (D.map str) (by rfl) ((Row.alloc (w := w7) HA6.out.at_.2.2 _).at_ (fun _ _ => rfl)) (some ⟨w7.heap.size, 0, none⟩) 1 1 [str e.c] (by rfl) rfl (rdNew _ _ _) (by simp [Value.oneCell']) (by omega) (by simp only [maxLen]; omega) (Nat.zero_le _) ?_; intro A8 c8 w8 hrow8 hg8 hb8; have hF8 : Fr (fun k => (Value.slice A5 D.length c5).ownBlock = some k) w7 w8 := (Fr.of_fresh (S := fun k => (Value.slice A5 D.length c5).ownBlock = some k) (((Below.refl _ w7).drew).alloc (Nat.le_refl _) _)).trans (Fr.of_grown hg8) (fun _ _ e => e); have k2 := hF8.heap HA6.out.at_.1 (fun e => HA6.out.at_.ne.2.1 hb e rfl); obtain ⟨m0, m1, g0, g1⟩ := hi_cells k2)
          all_goals
            go_wp2_with fail
            go_meet
            have hl1 : D.length + 1 = (D ++ [e.c]).length := by simp
            have hce : cmdsP c e = D ++ [e.c] := by unfold cmdsP; rw [HD.out]
            rw [hl1] at hrow8 hb8 ⊢
            rw [map_add] at hrow8
            rw [hce]
            exact (HA6.out.setC hrow8 hF8 (own_some hb8 (by simp))).toL
        case rest =>
          obtain ⟨wz, rfl⟩ : ∃ wz, wz = wc := ⟨_, rfl⟩
          obtain ⟨E, hE⟩ : ∃ E, E = cmdsP c e := ⟨_, rfl⟩
          have hEl : E.length ≤ 100001 := by rw [hE]; unfold cmdsP; rw [← HD.out]; simp; omega
          have hE0 : E ≠ [] := by rw [hE]; unfold cmdsP; simp
          rw [← hE] at hcut
          obtain ⟨vl9, vc9, hA9⟩ := hcut
          have HA9 := Lib.hid hA9
          have HE := Lib.hid hE
          obtain ⟨A9, c9, rfl, hc9, _, hrd9, _⟩ := hA9.at_.2.2.rd
          clear hA9 hE x0 x1 x2 k0 k1 f0 f1 hbl
          obtain ⟨k0, k1, f0, f1⟩ := hi_cells HA9.out.at_.1
          have hbl := lt_of_heap HA9.out.at_.1
          by_cases h40 : E.length ≤ 40
          · have j1 : decide ((E.length : Int) ≤ 40) = true := decide_eq_true (by omega)
            have j2 : decide (E.length ≤ 40) = true := decide_eq_true h40
            have hf : addPL l c e = L1 ∧ addPC c e = E ∧ goneP c e = [] ∧ codeP e = 0 := by
              unfold addPL addPC goneP codeP
              rw [HRI.out, if_pos rfl, if_pos rfl, if_pos rfl, if_pos rfl, ← HE.out, if_pos h40, if_pos h40, if_pos h40, ← HL1'.out]
              exact ⟨rfl, rfl, rfl, rfl⟩
            have HF := Lib.hid hf
            clear hf h40 hrd9 hE0
            go_wp2
            go_ret2
            unfold HAddPost
            rw [HF.out.1, HF.out.2.1, HF.out.2.2.1, HF.out.2.2.2]
            exact ⟨none, 0, _, rfl, Row.nil _ _ _ _, ⟨_, _, HA9.out.at_, rfl⟩, HA9.out.fr_, HA9.out.fp_⟩
          · have j1 : decide ((E.length : Int) ≤ 40) = false := decide_eq_false (by omega)
            have j2 : decide (E.length ≤ 40) = false := decide_eq_false h40
            obtain ⟨s0, Et, hEt⟩ : ∃ s0 Et, E = s0 :: Et := by
              cases E with
              | nil => exact absurd rfl hE0
              | cons a b => exact ⟨a, b, rfl⟩
            obtain ⟨g9, o9, rfl, y0⟩ := hrd9 0 (str s0) (by rw [hEt]; rfl)
            rw [Nat.add_zero] at y0
            have hf : addPL l c e = (L1.filter fun x => !decide (x.c = s0)) ∧ addPC c e = Et ∧ goneP c e = [s0] ∧ codeP e = 0 := by
              unfold addPL addPC goneP codeP
              rw [HRI.out, if_pos rfl, if_pos rfl, if_pos rfl, if_pos rfl, ← HE.out, if_neg h40, if_neg h40, if_neg h40, ← HL1'.out, hEt]
              exact ⟨rfl, rfl, rfl, rfl⟩
            have HF := Lib.hid hf
            have HET := Lib.hid hEt
            have hlen : E.length = Et.length + 1 := by rw [hEt]; rfl
            have HLEN := Lib.hid hlen
            have p1 : (1 : Int) ≤ (E.length : Int) := by omega
            have p0 : (0 : Int) < (E.length : Int) := by omega
            have hfrom : ∀ W : World, (Instr.slice 29 (.slice (some ⟨g9, o9, none⟩) E.length c9) (some (.int .i64 1)) none none).run Tryd.prog W = .ok (.slice (fromA (some ⟨g9, o9, none⟩) c9 1 1) (E.length - 1) (c9 - 1)) W := fun W => run_from (P := Tryd.prog) 29 9 1 Tryd.underlying29 Tryd.size_str (some ⟨g9, o9, none⟩) E.length c9 1 (by omega) hc9 W
            have hrw : Row wz 0 9 1 (.slice (fromA (some ⟨g9, o9, none⟩) c9 1 1) (E.length - 1) (c9 - 1)) Et.length (Et.map str) := by
              have := HA9.out.at_.2.2.from_ rfl 1 (by omega)
              rw [show E.length - 1 = Et.length by omega] at this ⊢
              have hd1 : (E.map str).drop 1 = Et.map str := by rw [hEt]; rfl
              rw [hd1] at this
              unfold fromA
              rw [Nat.mul_one]; exact this
            obtain ⟨QA, hvN⟩ : ∃ q, q = fromA (some ⟨g9, o9, none⟩) c9 1 1 := ⟨_, rfl⟩
            have hown : (Value.slice QA (E.length - 1) (c9 - 1)).ownBlock = (Value.slice (some ⟨g9, o9, none⟩) E.length c9).ownBlock := by
              rw [hvN]; unfold fromA; rw [Nat.mul_one]; exact ownBlock_from
            rw [← hvN] at hrw hfrom
            have HA10 := Lib.hid (HA9.out.setC hrw (Fr.refl _ _) (.inl hown))
            have HVN := Lib.hid hvN
            obtain ⟨wS, hwS⟩ : ∃ W, W = wz.setCell ⟨hb, 1, none⟩ (.slice QA (E.length - 1) (c9 - 1)) := ⟨_, rfl⟩
            rw [← hwS] at HA10
            obtain ⟨wF, hwF⟩ : ∃ W, W = wS.alloc (.cells #[str s0] 9) := ⟨_, rfl⟩
            have hzS : wS.heap.size = wz.heap.size := by rw [hwS]; simp
            have hBF : Below wS.heap.size wS wF := by rw [hwF]; exact (Below.refl _ _).alloc (Nat.le_refl _) _
            have hfb : wF.heap[wz.heap.size]? = some (.cells #[str s0] 9 (0, 0)) := by rw [hwF, ← hzS]; exact heap_alloc_new wS _
            have HA11 := Lib.hid (HA10.out.later hBF)
            obtain ⟨AL, cL, rfl, _, _, _, _⟩ := HA11.out.at_.2.1.rd
            obtain ⟨fb, hfbe⟩ : ∃ fb, fb = wz.heap.size := ⟨_, rfl⟩
            rw [← hfbe] at hfb
            have hlt11 := HA10.out.at_.lt
            have hfbn : ∀ b ∈ hb :: (rbH (Value.slice AL L1.length cL) ++ rbH (Value.slice QA (E.length - 1) (c9 - 1))), b ≠ fb := fun b hm e1 => by have := hlt11 b hm; omega
            have q9 := delE_calls 45 fb (.cells #[str s0] 9 (0, 0)) _ own3 (tells3 fb s0) wF hfb AL cL L1 HA11.out.at_.2.1 (fun g hg => hfbn g (List.mem_cons_of_mem _ (List.mem_append_left _ (rbH_mem hg)))) (by omega)
            have Q9 := Lib.hid q9
            have HWF : Hid (wF = (wz.setCell ⟨hb, 1, none⟩ (.slice QA (E.length - 1) (c9 - 1))).alloc (.cells #[str s0] 9)) := Lib.hid (by rw [hwF, hwS])
            have HFBE := Lib.hid hfbe
            have HFBN := Lib.hid hfbn
            have HFB := Lib.hid hfb
            clear hf h40 hrd9 hE0 hEt hlen q9 hwF hwS hfbe hfbn hfb hBF hlt11 hrw hown hvN
            go_wp2_with fail
            rw [← HWF.out, ← HFBE.out]
            refine Q9.out.mono ?_
            rintro x wG ⟨rfl, hrG, hFG⟩
            have hkG := hFG.heap HA11.out.at_.1 (fun e => HA11.out.at_.ne.1 hb e rfl)
            have hfG := hFG.heap HFB.out (fun e => HFBN.out fb (List.mem_cons_of_mem _ (List.mem_append_left _ (rbH_mem e))) rfl)
            obtain ⟨M, hM⟩ : ∃ M, M = L1.filter fun x => !decide (x.c = s0) := ⟨_, rfl⟩
            rw [← hM] at hrG HF ⊢
            have HA12 := Lib.hid (HA11.out.setL hrG hFG (.inl (by rw [ownB, ownB])))
            have hfH : (wG.setCell ⟨hb, 0, none⟩ (.slice AL M.length cL)).heap[fb]? = some (.cells #[str s0] 9 (0, 0)) := by
              rw [Below.heap_setCell _ _ _ _ (fun e => HFBN.out hb (List.mem_cons_self ..) e.symm)]; exact hfG
            obtain ⟨wH, hwH⟩ : ∃ W, W = wG.setCell ⟨hb, 0, none⟩ (.slice AL M.length cL) := ⟨_, rfl⟩
            rw [← hwH] at hfH HA12
            have z0 : wH.cell? ⟨fb, 0, none⟩ = some (str s0) := by rw [cell_of_row wH fb _ _ _ (0, 0) hfH]; rfl
            clear k0 k1 f0 f1
            obtain ⟨k0, k1, f0, f1⟩ := hi_cells hkG
            have HWH := Lib.hid hwH
            have HM := Lib.hid hM
            rw [hwH] at z0
            clear hwH hM hrG hFG hkG hfG hfH
            go_wp2_with fail
            go_ret2
            unfold HAddPost
            rw [HF.out.1, HF.out.2.1, HF.out.2.2.1, HF.out.2.2.2, ← HWH.out]
            have hs := HA12.out.fr_.size
            have hBl : Below wH.heap.size wH (wH.alloc (.cells #[str s0] 9)) := (Below.refl _ _).alloc (Nat.le_refl _) _
            have HA13 := HA12.out.later hBl
            have hnew := Row.new wH #[str s0] w.heap.size 9 1 1 hs (by simp [maxLen]) rfl
            rw [show wH.heap.size = wG.heap.size by rw [HWH.out]; simp] at hnew
            exact ⟨_, _, _, rfl, hnew, ⟨_, _, HA13.at_, rfl⟩, HA13.fr_, HA13.fp_⟩
end Go.Proofs.YtpemjhghiccngaaDoor
