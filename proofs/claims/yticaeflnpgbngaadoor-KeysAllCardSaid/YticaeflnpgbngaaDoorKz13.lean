import Derived.Test.YticaeflnpgbngaaDoorKz12
namespace Go.Proofs.YticaeflnpgbngaaDoor
set_option linter.unusedVariables false
set_option linter.unusedSimpArgs false
open Go.RowKit Go.Maps
theorem SB.di2 {w W W1 : World} {db : Nat} {d : Dc} {fp : List Nat} {sb : Nat} {b : Bs} {Ar : Option Addr} {cr : Nat} (h : SB w W db d fp sb b Ar cr) (hb : Below W.heap.size W W1) (u v : Value) : Di ((W1.setCell ⟨sb, 0, none⟩ u).setCell ⟨sb, 1, none⟩ v) db d fp := by
  have h1 := h.later hb
  have hsn := h.di.toff h.st (by decide) (by decide)
  have hF : Fr (fun k => k = sb) W1 ((W1.setCell ⟨sb, 0, none⟩ u).setCell ⟨sb, 1, none⟩ v) := (Fr.setCell W1 ⟨sb, 0, none⟩ _).trans (Fr.setCell _ ⟨sb, 1, none⟩ _) fun _ _ e => e
  exact h1.di.move fun k hk => hF.block k (h1.di.lt k hk) fun e => hsn (e ▸ hk)
theorem SB.u8 {w W W1 : World} {db : Nat} {d : Dc} {fp : List Nat} {sb : Nat} {b : Bs} {Ar : Option Addr} {cr : Nat} (h : SB w W db d fp sb b Ar cr) (hb : Below W.heap.size W W1) (hU : U8 w) (u v : Value) : ∀ w', Fr (fun k => k ∈ fp) ((W1.setCell ⟨sb, 0, none⟩ u).setCell ⟨sb, 1, none⟩ v) w' → U8 w' := fun w' hf => by
  have hF : Fr (fun k => k = sb) W1 ((W1.setCell ⟨sb, 0, none⟩ u).setCell ⟨sb, 1, none⟩ v) := (Fr.setCell W1 ⟨sb, 0, none⟩ _).trans (Fr.setCell _ ⟨sb, 1, none⟩ _) fun _ _ e => e
  have h1 := h.be.trans (hb.mono h.be.size)
  refine hU.later ((((Fr.of_below h1).trans hF fun i _ e => ?_).trans hf fun i _ e => h.lo i e).below (Nat.le_refl _) fun k _ e => e)
  rw [e]; exact h.sl
theorem SB.go {w W W1 W3 : World} {db : Nat} {d d' : Dc} {fp : List Nat} {sb eb : Nat} {b b' : Bs} {Ar A2 : Option Addr} {cr c2 : Nat} (h : SB w W db d fp sb b Ar cr) (hb : Below W.heap.size W W1)
    (hr : RdB W1 A2 b') (hc : b'.length ≤ c2) (hA : ∀ a, A2 = some a → b' ≠ [] → (Ar = some a ∧ b ≠ []) ∨ W.heap.size ≤ a.block) {age' : Nat} (hage : age' = d'.ag)
    {v3 : Value} {ks : List KeyT} (hk3 : RowR W1 W.heap.size v3 ks) {ev : Array Value} (he : W.heap[eb]? = some (.cells ev 33 (0, 0))) (hrel : RelD d' b') (hag : d'.ag ≤ 1) {e : Ending}
    (ht : TellsK ((W1.setCell ⟨sb, 0, none⟩ (.slice A2 b'.length c2)).setCell ⟨sb, 1, none⟩ (n64 age')) db fp (ks, d') e W3) :
    ∃ v B fp', e = .returned v ∧ RowK W3 B v ks ∧ RowR W3 W.heap.size v3 ks ∧ SB w W3 db d' fp' sb b' A2 c2 ∧ W3.heap[eb]? = some (.cells ev 33 (0, 0)) := by
  obtain ⟨v, hv, hkv, hm⟩ := ht
  obtain ⟨fp', hsb⟩ := h.step hb hr hc hA age' hage rfl hm hrel hag
  have h1 := h.later hb
  have hd2 := h.di2 hb (.slice A2 b'.length c2) (n64 age')
  have he1 := (hb.block eb (lt_of_heap he)).trans he
  have hes : eb ≠ sb := fun e9 => by
    rw [e9, h.st] at he
    injection he with he; injection he with _ he
    exact absurd he (by decide)
  have he2 : ((W1.setCell ⟨sb, 0, none⟩ (.slice A2 b'.length c2)).setCell ⟨sb, 1, none⟩ (n64 age')).heap[eb]? = some (.cells ev 33 (0, 0)) := by
    rw [Below.heap_setCell _ _ _ _ hes, Below.heap_setCell _ _ _ _ hes]
    exact he1
  have hk2 := hk3.set2 h1.st (by decide) (.slice A2 b'.length c2) (n64 age')
  obtain ⟨fp2, _, hf, _⟩ := hm
  refine ⟨v, _, fp', hv, hkv, hk2.fr hf fun k hk hm => ?_, hsb, (hf.block eb (lt_of_heap he2) (hd2.toff he2 (by decide) (by decide))).trans he2⟩
  have h8 := (hk2.lt k hk).1
  have h9 := h.di.lt k hm
  omega
abbrev evBox (t : Bool) (A : Option Addr) (n c : Nat) : Obj := .cells #[.bool t, .slice A n c] 33
set_option maxRecDepth 100000 in
set_option maxHeartbeats 6400000 in
theorem KeysAll_walk (w : World) (hU : U8 w) (A : Option Addr) (c : Nat) (l : List EvT) (hr : Rd w A (flatV l)) (hl : l.length ≤ 140737488351232) (hk : ∀ e ∈ l, OkEv w e) :
    Calls Tryd.prog 3 #[.slice A l.length c] w fun e w' => e = .returned (.bool true) ∧ Below w.heap.size w w' := by
  have AL := Lib.hid (fun (W : World) (h : Below w.heap.size w W) => al04_calls W (hU.later h))
  have FW := Lib.hid (few4_calls w A c l hr hl hk)
  have HR := Lib.hid hr
  have HK := Lib.hid hk
  have HU := Lib.hid hU
  cases hf : fewV l with
  | false =>
    rw [hf] at FW
    clear hU hr hk hf
    go_enter Tryd.func3, Tryd.ntmps3
    go_wp2_with fail
    refine FW.out.mono ?_
    rintro e w1 ⟨rfl, b1⟩
    go_wp2_with (refine (AL.out w1 b1).mono ?_; rintro e w9 ⟨rfl, b9⟩)
    go_ret
    exact ⟨rfl, b1.trans (b9.mono b1.size)⟩
  | true =>
    rw [hf] at FW
    have hfw : l.length ≤ 100 ∧ sumV l ≤ 2000 := by
      unfold fewV at hf
      rw [Bool.and_eq_true, decide_eq_true_eq, decide_eq_true_eq] at hf
      exact hf
    obtain ⟨hl1, hl2⟩ := hfw
    clear hU hr hk hf hl
    go_enter Tryd.func3, Tryd.ntmps3
    go_wp2_with fail
    refine FW.out.mono ?_
    rintro e w1 ⟨rfl, b1⟩
    obtain ⟨fp0, hd0, hlo0, hbe0⟩ := Ses.new w w1 b1
    have hS0 : SB w ((w1.alloc (.cells decZ 29)).alloc (.cells #[.slice none 0 0, .int .i64 0] 31)) w1.heap.size Dc.new fp0 (w1.heap.size + 1) [] none 0 :=
      ⟨hd0.later ((Below.refl _ _).alloc (Nat.le_refl _) _), hlo0, hbe0.alloc hbe0.size _, by have := b1.size; omega, by
        have := heap_alloc_new (w1.alloc (.cells decZ 29)) (.cells #[.slice none 0 0, .int .i64 0] 31)
        rwa [World.size_alloc] at this, Rd.nil _ _, Nat.zero_le _, fun a ha => (by cases ha), RelD.new, Nat.zero_le _⟩
    have S0 := Lib.hid hS0
    unfold decZ at S0
    obtain ⟨db, hdb⟩ : ∃ db, db = w1.heap.size := ⟨_, rfl⟩
    have HDB := Lib.hid hdb
    obtain ⟨sb, hsb⟩ : ∃ sb, sb = w1.heap.size + 1 := ⟨_, rfl⟩
    rw [← hsb, ← hdb] at S0
    clear hS0 hd0 hlo0 hbe0
    go_wp2_with fail
    rw [← hsb, ← hdb]
    clear hdb hsb
    go_loopw [19] (fun u19 wr => ∃ (i : Nat) (d : Dc) (fp : List Nat) (b : Bs) (Ar : Option Addr) (cr : Nat), u19 = n64 i ∧ i ≤ l.length ∧ b.length ≤ sumV (l.take i) ∧ Hid (SB w wr db d fp sb b Ar cr)) (fun u19 _ => (l.length - intOf u19).toNat)
    case atStart => exact ⟨0, Dc.new, fp0, [], none, 0, rfl, Nat.zero_le _, Nat.zero_le _, S0⟩
    case round =>
      obtain ⟨i, d, fp, b, Ar, cr, rfl, hi, hbs, HS⟩ := hrel
      have hbe := HS.out.be
      by_cases hlt : i < l.length
      · obtain ⟨o, ho⟩ : ∃ o, l[i]? = some o := ⟨_, List.getElem?_eq_getElem hlt⟩
        obtain ⟨g, off, rfl, c0, c1⟩ := ev_at (HR.out.later hbe) ho
        have hko := HK.out o (List.mem_of_getElem? ho)
        have hst := sumV_take l ho
        have hst2 := sumV_take_le l (i + 1)
        obtain ⟨ot, ob, oA, oc⟩ := o
        dsimp only at c0 c1 hko hst
        have hjl : (i : Int) < (l.length : Int) := by omega
        obtain ⟨wz, hwz⟩ : ∃ wz, wz = wr.alloc (.cells #[.bool ot, .slice oA ob.length oc] 33) := ⟨_, rfl⟩
        have hbz : Below wr.heap.size wr wz := by rw [hwz]; exact (Below.refl _ _).alloc (Nat.le_refl _) _
        have HSA := Lib.hid (HS.out.later hbz)
        obtain ⟨eb, heb⟩ : ∃ eb, eb = wr.heap.size := ⟨_, rfl⟩
        have HBX : Hid (wz.heap[eb]? = some (.cells #[.bool ot, .slice oA ob.length oc] 33 (0, 0))) := Lib.hid (by rw [hwz, heb]; exact heap_alloc_last wr _)
        have HKO := Lib.hid hko
        have HWZ := Lib.hid hwz
        have HEB := Lib.hid heb
        have hob : b.length + ob.length ≤ 2000 := by omega
        clear ho hko heb hst2 hwz
        go_upto_if 24 with fail
        rw [← HWZ.out, ← HEB.out]
        clear c0 c1
        obtain ⟨k0, k1, l0, l1⟩ := key_cells HSA.out.st
        obtain ⟨e0, e1, _, _⟩ := key_cells HBX.out
        go_cut [] (fun wx => ∃ (d2 : Dc) (fp2 : List Nat) (b2 : Bs) (Ar2 : Option Addr) (cr2 : Nat), b2.length ≤ b.length ∧ Hid (SB w wx db d2 fp2 sb b2 Ar2 cr2) ∧ Hid (wx.heap[eb]? = some (.cells #[.bool ot, .slice oA ob.length oc] 33 (0, 0))))
        case first =>
          cases ot with
          | false =>
            go_wp2
            go_meet
            case rel => exact ⟨d, fp, b, Ar, cr, Nat.le_refl _, HSA, HBX⟩
          | true =>
            obtain ⟨t1, t2, t3⟩ := tick_rel HSA.out.rel HSA.out.ag
            obtain ⟨t4, t5⟩ := tick_len b d.ag
            have t6 := t5 HSA.out.ag
            have t7 : (tickR b d.ag).2.1 ≠ [] → b ≠ [] := fun h e => h (List.eq_nil_of_length_eq_zero (by have h0 : b.length = 0 := (by rw [e]; rfl); omega))
            have QT := Lib.hid (r4Tick_calls Ar cr b d.ag wz HSA.out.rd HSA.out.le (by omega))
            have hklen := tick_klen d HSA.out.rel
            obtain ⟨o3, ho3⟩ : ∃ o3, o3 = tickR b d.ag := ⟨_, rfl⟩
            rw [← ho3] at t1 t2 t3 t4 t6 t7 QT
            obtain ⟨ks, b3, a3⟩ := o3
            dsimp only at t1 t2 t3 t4 t6 t7 QT
            have QD := Lib.hid (fun (W1 : World) (hb : Below wz.heap.size wz W1) (u v : Value) => kTick_calls (HSA.out.di2 hb u v) HSA.out.rel (by have := HSA.out.ag; omega))
            obtain ⟨o4, ho4⟩ : ∃ o4, o4 = tickD d := ⟨_, rfl⟩
            rw [← ho4] at t1 t2 t3 hklen QD
            obtain ⟨ks4, d4⟩ := o4
            dsimp only at t1 t2 t3 hklen QD
            subst t1
            have T2 := Lib.hid t2
            have T3 := Lib.hid t3
            have T7 := Lib.hid t7
            obtain ⟨da, hda⟩ : ∃ da, da = d.ag := ⟨_, rfl⟩
            rw [← hda] at k1 QT
            have HDA := Lib.hid hda
            clear t2 t3 t5 t7 ho3 ho4 hda
            go_wp2_with fail
            refine QT.out.mono ?_
            rintro e w2 ⟨A2, c2, v3, rfl, hr2, hc2, hA2, hk3, b2⟩
            have hb3 := b2.alloc b2.size (.cells #[.slice A2 b3.length c2, n64 a3] 31)
            have hst3 := (HSA.out.later hb3).st
            obtain ⟨m0, m1, n0, n1⟩ := key_cells hst3
            clear k0 k1 l0 l1
            go_wp2_with fail
            refine (QD.out _ hb3 _ _).mono ?_
            rintro e w3 ht
            obtain ⟨v5, B5, fp5, rfl, q1, q2, q3, q4⟩ := HSA.out.go hb3 (Rd.later hr2 ((Below.refl _ _).alloc (Nat.le_refl _) _)) hc2 (fun a ha hne => (hA2 a ha).imp (fun e => ⟨e, T7.out hne⟩) id) T3.out.symm (hk3.alloc _) HBX.out T2.out (by rw [T3.out]; exact t6) ht
            clear ht m0 m1 n0 n1
            go_wp2_with fail
            refine (same4_calls w3 q1 q2 (by omega)).mono ?_
            rintro e w4 ⟨rfl, b4⟩
            have Q3 := Lib.hid (q3.later b4)
            have Q4 := Lib.hid ((b4.block eb (lt_of_heap q4)).trans q4)
            clear q1 q2 q3 q4
            go_wp2
            go_meet
            case rel => exact ⟨d4, fp5, b3, A2, c2, t4, Q3, Q4⟩
        case rest =>
          obtain ⟨d2, fp2, b2, Ar2, cr2, hb2l, HS2, HB2⟩ := hcut
          obtain ⟨wy, hwy⟩ : ∃ wy, wy = wc := ⟨_, rfl⟩
          rw [← hwy] at HS2 HB2 ⊢
          clear hwy k0 k1 l0 l1 e0 e1
          obtain ⟨e0, e1, _, _⟩ := key_cells HB2.out
          go_wp2_with fail
          go_loopw [38] (fun u38 wx => ∃ (j : Nat) (d3 : Dc) (fp3 : List Nat) (b3 : Bs) (Ar3 : Option Addr) (cr3 : Nat), u38 = n64 j ∧ j ≤ ob.length ∧ b3.length ≤ b.length + j ∧ Hid (SB w wx db d3 fp3 sb b3 Ar3 cr3) ∧ Hid (wx.heap[eb]? = some (.cells #[.bool ot, .slice oA ob.length oc] 33 (0, 0)))) (fun u38 _ => (ob.length - intOf u38).toNat)
          case atStart => exact ⟨0, d2, fp2, b2, Ar2, cr2, rfl, Nat.zero_le _, hb2l, HS2, HB2⟩
          case round =>
            obtain ⟨j, d3, fp3, b3, Ar3, cr3, rfl, hj, hb3l, HS3, HB3⟩ := hrel
            by_cases hjl2 : j < ob.length
            · obtain ⟨x, hx⟩ : ∃ x, ob[j]? = some x := ⟨_, List.getElem?_eq_getElem hjl2⟩
              obtain ⟨g6, o6, rfl, y0⟩ := one2B (Rd.later HKO.out.1 HS3.out.be) hx
              have z1 : (j : Int) < (ob.length : Int) := by omega
              obtain ⟨k0, k1, l0, l1⟩ := key_cells HS3.out.st
              obtain ⟨t1, t2⟩ := put_rel HS3.out.rel x
              have QT := Lib.hid (r4Put_calls Ar3 cr3 b3 d3.ag x wr HS3.out.rd HS3.out.le (by omega))
              have t4 : (putR b3 x).2.length ≤ b3.length + 1 := by
                have : (putR b3 x).2.length ≤ (b3 ++ [x]).length := readR_len _ _
                rw [List.length_append, List.length_singleton] at this
                exact this
              have hklen := putD_len d3 x
              have hfl := (rel_num HS3.out.rel).1
              have hag := put_ag d3 x
              obtain ⟨o3, ho3⟩ : ∃ o3, o3 = putR b3 x := ⟨_, rfl⟩
              rw [← ho3] at t1 t2 t4 QT
              obtain ⟨ks, b4⟩ := o3
              dsimp only at t1 t2 t4 QT
              have QD := Lib.hid (fun (W1 : World) (hb : Below wr.heap.size wr W1) (u v : Value) => kPut_calls (HS3.out.di2 hb u v) x HS3.out.rel (by omega) (HS3.out.u8 hb HU.out u v))
              obtain ⟨o4, ho4⟩ : ∃ o4, o4 = putD d3 x := ⟨_, rfl⟩
              rw [← ho4] at t1 t2 hklen QD hag
              obtain ⟨ks4, d4⟩ := o4
              dsimp only at t1 t2 hklen QD hag
              subst t1
              have T2 := Lib.hid t2
              have T3 := Lib.hid hag
              have hks : ks4.length ≤ 5 := by omega
              obtain ⟨da, hda⟩ : ∃ da, da = d3.ag := ⟨_, rfl⟩
              rw [← hda] at k1 QT
              clear t2 hag ho3 ho4 hda hx hklen hfl e0 e1
              go_wp2_with fail
              refine QT.out.mono ?_
              rintro e w2 ⟨v2, v3, rfl, hr2, hk3, b2'⟩
              obtain ⟨A2, c2, rfl, hc2, _, hrd2, hA2⟩ := hr2.rd
              have hb3 := b2'.alloc b2'.size (.cells #[.slice A2 b4.length c2, .int .i64 0] 31)
              have hst3 := (HS3.out.later hb3).st
              obtain ⟨m0, m1, n0, n1⟩ := key_cells hst3
              clear k0 k1 l0 l1
              go_wp2_with fail
              refine (QD.out _ hb3 _ _).mono ?_
              rintro e w3 ht
              obtain ⟨v5, B5, fp5, rfl, q1, q2, q3, q4⟩ := HS3.out.go (age' := 0) hb3 (Rd.later hrd2 ((Below.refl _ _).alloc (Nat.le_refl _) _)) hc2 (fun a ha _ => .inr (hA2 a ha).1) T3.out.symm (hk3.alloc _) HB3.out T2.out (by rw [T3.out]; exact Nat.zero_le _) ht
              clear ht m0 m1 n0 n1
              go_wp2_with fail
              refine (same4_calls w3 q1 q2 (by omega)).mono ?_
              rintro e w4 ⟨rfl, b4'⟩
              have Q3 := Lib.hid (q3.later b4')
              have Q4 := Lib.hid ((b4'.block eb (lt_of_heap q4)).trans q4)
              clear q1 q2 q3 q4
              go_wp2
              go_roundw
              case rel => exact ⟨j + 1, d4, fp5, b4, A2, c2, by go_num, by omega, by omega, Q3, Q4⟩
              case measure => simp [intOf]; omega
            · have z1 : ¬ (j : Int) < (ob.length : Int) := by omega
              have hfo : Tryd.prog.follows Departure.mixedOrders = true := by kernel_rfl
              obtain ⟨k0, k1, l0, l1⟩ := key_cells HS3.out.st
              have hw := waits_iff HS3.out.rel
              have hp := paste_iff HS3.out.rel
              have hwl : decide (b3 ≠ []) = decide ((0 : Int) < (b3.length : Int)) := decide_eq_decide.2 ⟨fun h => by have := List.length_pos_iff.2 h; omega, fun h e => by rw [e] at h; simp at h⟩
              have WD := Lib.hid (fun (W : World) (hb : Below wr.heap.size wr W) => WaitsD_calls (HS3.out.later hb).di)
              have PD := Lib.hid (fun (W : World) (hb : Below wr.heap.size wr W) => Pasting_calls (HS3.out.later hb).di)
              have RP := Lib.hid (fun (W : World) (hb : Below wr.heap.size wr W) => r4Paste_calls Ar3 cr3 b3 W (HS3.out.later hb).rd HS3.out.le)
              have KC := Lib.hid (fun (W : World) (hb : Below wr.heap.size wr W) => (key_cells (HS3.out.later hb).st).1)
              rw [hw, hwl] at WD
              rw [hp] at PD
              obtain ⟨P, hP⟩ : ∃ P, P = isP b3 := ⟨_, rfl⟩
              rw [← hP] at PD RP
              obtain ⟨N, hN⟩ : ∃ N : Bool, N = decide ((0 : Int) < (b3.length : Int)) := ⟨_, rfl⟩
              rw [← hN] at WD
              have hbd : Below wr.heap.size wr wr.drew := ⟨rfl, rfl, rfl, Nat.le_refl _, fun _ _ => rfl⟩
              have kd : wr.drew.cell? ⟨sb, 0, none⟩ = some (.slice Ar3 b3.length cr3) := k0
              have HB3' := HB3
              clear hw hp hwl e0 e1 k1 l0 l1
              go_wp2_with fail
              go_region_with (first
                | (go_at_call 18; refine (WD.out _ hbd).mono ?_; rintro e w9 ⟨rfl, rfl⟩)
                | (go_at_call 18; refine (WD.out _ hb9).mono ?_; rintro e w8 ⟨rfl, rfl⟩)
                | (go_at_call 19; refine (PD.out _ hbd).mono ?_; rintro e w9 ⟨rfl, rfl⟩)
                | (go_at_call 19; refine (PD.out _ hb9).mono ?_; rintro e w8 ⟨rfl, rfl⟩)
                | (go_at_call 20; refine (RP.out _ hbd).mono ?_; rintro e w9 ⟨rfl, b9⟩; have hb9 : Below wr.heap.size wr w9 := hbd.trans b9; have k9 := KC.out w9 hb9))
              all_goals
                have Q3 := Lib.hid (HS3.out.later hb9)
                go_wp2
                go_roundw
                case rel => exact ⟨i + 1, d3, fp3, b3, Ar3, cr3, by go_num, by omega, by omega, Q3⟩
                case measure => simp [intOf]; omega
      · have z1 : ¬ (i : Int) < (l.length : Int) := by omega
        go_wp2_with (refine (AL.out wr hbe).mono ?_; rintro e w9 ⟨rfl, b9⟩)
        go_ret
        exact ⟨rfl, hbe.trans (b9.mono hbe.size)⟩
end Go.Proofs.YticaeflnpgbngaaDoor
