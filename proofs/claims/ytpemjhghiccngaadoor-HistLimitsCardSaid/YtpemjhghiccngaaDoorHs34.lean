import Derived.Test.YtpemjhghiccngaaDoorHs28
import Derived.BigQuiet
namespace Go.Proofs.YtpemjhghiccngaaDoor
set_option linter.unusedVariables false
set_option linter.unusedSimpArgs false
open Go.RowKit Go.Shelf
/-! HistLimits. -/
theorem cellB {w w' : World} (h : Below w.heap.size w w') {a : Addr} {v : Value} (hc : w.cell? a = some v) : w'.cell? a = some v := by
  rw [h.cell (World.block_lt_of_cell? w a hc)]
  exact hc
theorem greedy_yes {L l : List EntT} {k j : Nat} {x : EntT} (h : (L.drop k).Sublist (l.drop j)) (hx : l[j]? = some x) (hy : L[k]? = some x) : (L.drop (k + 1)).Sublist (l.drop (j + 1)) := by
  obtain ⟨h1, e1⟩ := List.getElem?_eq_some_iff.1 hx
  obtain ⟨h2, e2⟩ := List.getElem?_eq_some_iff.1 hy
  rw [List.drop_eq_getElem_cons h1, List.drop_eq_getElem_cons h2, e1, e2] at h
  exact List.cons_sublist_cons.1 h
theorem greedy_no {L l : List EntT} {k j : Nat} {x y : EntT} (h : (L.drop k).Sublist (l.drop j)) (hx : l[j]? = some x) (hy : L[k]? = some y) (hne : y ≠ x) : (L.drop k).Sublist (l.drop (j + 1)) := by
  obtain ⟨h1, e1⟩ := List.getElem?_eq_some_iff.1 hx
  obtain ⟨h2, e2⟩ := List.getElem?_eq_some_iff.1 hy
  rw [List.drop_eq_getElem_cons h1, List.drop_eq_getElem_cons h2, e1, e2] at h
  rw [List.drop_eq_getElem_cons h2, e2]
  cases h with
  | cons _ h => exact h
  | cons_cons _ h => exact absurd rfl hne
theorem greedy_end {L l : List EntT} {k j : Nat} (hk : ¬ k < L.length) : (L.drop k).Sublist (l.drop (j + 1)) := by
  rw [List.drop_eq_nil_of_le (by omega)]; exact List.nil_sublist _
theorem uses_last (q : List EntT) (x : EntT) : 1 ≤ (usesE (q ++ [x]) x.c).length := by
  rw [uses_snoc, if_pos rfl]; omega
set_option maxHeartbeats 12800000 in
set_option maxRecDepth 100000 in
theorem HistLimits_walk (w : World) (A : Option Addr) (c : Nat) (l : List EntT) (hi : In15 w A l) :
    Calls Tryd.prog 8 #[.slice A l.length c] w fun e w' => e = .returned (.bool true) ∧ Below w.heap.size w w' := by
  have HI := Lib.hid hi
  have hfew := Lib.hid (few15_calls w A c l hi.rd hi.blk hi.len hi.keys)
  clear hi
  obtain ⟨b, hb⟩ : ∃ b, b = fewE l := ⟨_, rfl⟩
  rw [← hb] at hfew
  cases b with
  | false =>
    clear hb
    go_enter Tryd.func8, Tryd.ntmps8
    go_wp2_with fail
    refine hfew.out.mono ?_
    rintro e w1 ⟨rfl, b1⟩
    go_wp2_with fail
    refine (al15_calls w1 (HI.out.u8.later b1)).mono ?_
    rintro e w2 ⟨rfl, b2⟩
    go_wp2
    go_ret
    exact ⟨rfl, b1.trans (b2.mono b1.size)⟩
  | true =>
    have HF := Lib.hid hb.symm
    clear hb
    have hl120 := (few_small HF.out).1
    go_enter Tryd.func8, Tryd.ntmps8
    go_wp2_with fail
    refine hfew.out.mono ?_
    rintro e w1 ⟨rfl, b1⟩
    go_wp2_with fail
    refine (New12_calls w1 A c l (HI.out.rd.later b1) (by omega)).mono ?_
    rintro e w2 ⟨A2, c2, rfl, hr2, b2⟩
    have B2 := b1.trans (b2.mono b1.size)
    have q := OfNew HI.out.u8 HF.out B2 (c1 := c2) hr2.rdS.1
    have HB2 := Lib.hid B2
    have Q := Lib.hid q
    clear hr2 b1 b2 B2 q
    go_wp2_with fail
    refine Q.out.mono ?_
    rintro e w3 ⟨hb, rfl, hg3, b3⟩
    have hlen := of_len100 HF.out
    have HG3 := Lib.hid hg3
    have HB3 := Lib.hid (HB2.out.trans (b3.mono HB2.out.size))
    have HSUB := Lib.hid (ofL_sub l)
    have hc40 := (Fine.of l).cmds
    obtain ⟨L, hL⟩ : ∃ L, L = ofL l := ⟨_, rfl⟩
    have HL := Lib.hid hL
    rw [← hL] at hlen HG3 hc40 HSUB
    clear hL hg3 b3
    have i40 : ¬ ((40 : Int) < ((cmdsE L).length : Int)) := by omega
    have i40' : ((cmdsE L).length : Int) ≤ 40 := by omega
    go_wp2_with fail
    refine (HgLen_calls w3 HG3.out (by omega)).mono ?_
    rintro e w4 ⟨rfl, rfl⟩
    go_wp2_with fail
    refine (HgEntries_calls w3 HG3.out (by omega)).mono ?_
    rintro e w4 ⟨A4, c4, rfl, hr4, b4⟩
    have HG4 := Lib.hid (HG3.out.later b4)
    have HB4 := Lib.hid (HB3.out.trans (b4.mono HB3.out.size))
    have Q4 := Lib.hid (Old_calls w4 A4 c4 L hr4.rdS.1 (by omega))
    clear hr4 b4
    go_wp2_with fail
    refine Q4.out.mono ?_
    rintro e w5 ⟨A5, c5, rfl, hr5, b5⟩
    have HG5 := Lib.hid (HG4.out.later b5)
    have HB5 := Lib.hid (HB4.out.trans (b5.mono HB4.out.size))
    have HR5 := Lib.hid hr5.rdS.1
    clear hr5 b5
    go_wp2
    go_loopw [5, 28] (fun u5 u28 wr => ∃ (k j : Nat), u5 = n64 k ∧ u28 = n64 j ∧ k ≤ L.length ∧ j ≤ l.length ∧ Hid ((L.drop k).Sublist (l.drop j)) ∧ Hid (Hg w2.heap.size wr hb L) ∧ Hid (Rd wr A5 (flatE L)) ∧ Hid (Below w.heap.size w wr)) (fun _ u28 _ => (l.length - intOf u28).toNat)
    case atStart => exact ⟨0, 0, rfl, rfl, Nat.zero_le _, Nat.zero_le _, HSUB, HG5, HR5, HB5⟩
    case round =>
      obtain ⟨k, j, rfl, rfl, hk, hj, HS, HG, HR, HB⟩ := hrel
      by_cases hlt : j < l.length
      · obtain ⟨x, hx⟩ : ∃ x, l[j]? = some x := ⟨_, List.getElem?_eq_getElem hlt⟩
        obtain ⟨g, off, rfl, v0, v1, v2⟩ := RdE.at (HI.out.rd.later HB.out) hx
        obtain ⟨wv, ev, hv, bv⟩ := new_ent wr x 28
        obtain ⟨q0, q1, q2⟩ := ent_cells hv
        have HBV := Lib.hid (HB.out.trans (bv.mono HB.out.size))
        have HGV := Lib.hid (HG.out.later bv)
        have HRV := Lib.hid (HR.out.later bv)
        have HEV := Lib.hid ev
        have HX := Lib.hid hx
        have b1 : (j : Int) < (l.length : Int) := by omega
        by_cases hkl : k < L.length
        · obtain ⟨y, hy⟩ : ∃ y, L[k]? = some y := ⟨_, List.getElem?_eq_getElem hkl⟩
          obtain ⟨g5, o5, rfl, y0, y1, y2⟩ := RdE.at HRV.out hy
          have heq := fun W => Tryd.eq_rent y x W
          unfold entV at heq
          have b2 : (k : Int) < (L.length : Int) := by omega
          have HY := Lib.hid hy
          by_cases hyx : y = x
          · subst hyx
            rw [decide_eq_true rfl] at heq
            have hs2 := Lib.hid (greedy_yes HS.out HX.out HY.out)
            clear hx ev hv bv hy
            go_wp2_with fail
            rw [HEV.out]
            go_quiet (fail)
            rename_i nq
            have bq : Below wv.heap.size wv (wv.drewN nq) := ⟨rfl, rfl, rfl, Nat.le_refl _, fun _ _ => rfl⟩
            go_wp2
            go_roundw
            case rel => exact ⟨k + 1, j + 1, by go_num, by go_num, by omega, by omega, hs2, Lib.hid (HGV.out.later bq), Lib.hid (HRV.out.later bq), Lib.hid (HBV.out.trans (bq.mono HBV.out.size))⟩
            case measure => simp [intOf]; omega
          · rw [decide_eq_false hyx] at heq
            have hs2 := Lib.hid (greedy_no HS.out HX.out HY.out hyx)
            clear hx ev hv bv hy hyx
            go_wp2_with fail
            rw [HEV.out]
            go_quiet (fail)
            rename_i nq
            have bq : Below wv.heap.size wv (wv.drewN nq) := ⟨rfl, rfl, rfl, Nat.le_refl _, fun _ _ => rfl⟩
            go_wp2
            go_roundw
            case rel => exact ⟨k, j + 1, by go_num, by go_num, by omega, by omega, hs2, Lib.hid (HGV.out.later bq), Lib.hid (HRV.out.later bq), Lib.hid (HBV.out.trans (bq.mono HBV.out.size))⟩
            case measure => simp [intOf]; omega
        · have hs2 := Lib.hid (greedy_end (L := L) (l := l) (j := j) hkl)
          have b2 : ¬ ((k : Int) < (L.length : Int)) := by omega
          have b3 : decide ((k : Int) < (L.length : Int)) = false := decide_eq_false b2
          clear hx ev hv bv
          go_wp2_with fail
          rw [HEV.out]
          go_quiet (fail)
          rename_i nq
          have bq : Below wv.heap.size wv (wv.drewN nq) := ⟨rfl, rfl, rfl, Nat.le_refl _, fun _ _ => rfl⟩
          go_wp2
          go_roundw
          case rel => exact ⟨k, j + 1, by go_num, by go_num, by omega, by omega, hs2, Lib.hid (HGV.out.later bq), Lib.hid (HRV.out.later bq), Lib.hid (HBV.out.trans (bq.mono HBV.out.size))⟩
          case measure => simp [intOf]; omega
      · obtain rfl : j = l.length := by omega
        have hkL : k = L.length := by
          have h := HS.out.length_le
          rw [List.drop_length, List.length_nil, List.length_drop] at h
          omega
        subst hkL
        have hw1 : IntKind.i64.wrap ((l.length : Int) - 1) = (l.length : Int) - 1 := IntWalk.i64_in _ (by omega)
        go_wp2
        go_loopw [8] (fun u8 wr => ∃ (k : Nat), u8 = .int .i64 ((k : Int) - 1) ∧ k ≤ l.length ∧ Hid (L = ofL (l.take k)) ∧ Hid (Hg w2.heap.size wr hb L) ∧ Hid (Rd wr A5 (flatE L)) ∧ Hid (Below w.heap.size w wr)) (fun u8 _ => (intOf u8 + 1).toNat)
        case atStart => exact ⟨l.length, rfl, Nat.le_refl _, Lib.hid (by rw [List.take_length]; exact HL.out), HG, HR, HB⟩
        case round =>
          obtain ⟨k, rfl, hk2, HL2, HG2, HR2, HB2⟩ := hrel
          cases k with
          | zero =>
            have hL0 : L = [] := by have := HL2.out; rwa [List.take_zero] at this
            have hz : L.length = 0 := by rw [hL0]; rfl
            have HZ := Lib.hid hz
            clear hL0
            rw [hz]
            clear hz
            go_wp2_with fail
            refine (al15_calls wr (HI.out.u8.later HB2.out)).mono ?_
            rintro e w7 ⟨rfl, b7⟩
            go_wp2
            go_ret
            exact ⟨rfl, HB2.out.trans (b7.mono HB2.out.size)⟩
          | succ k =>
            obtain ⟨x, hx⟩ : ∃ x, l[k]? = some x := ⟨_, List.getElem?_eq_getElem (by omega)⟩
            obtain ⟨g, off, rfl, v0, v1, v2⟩ := RdE.at (HI.out.rd.later HB2.out) hx
            have hsm := few_smallE HF.out x (List.mem_of_getElem? hx)
            have hst := ofL_step hx
            have q := RRight_calls x hsm.1 hsm.2 wr (HI.out.u8.later HB2.out)
            unfold entV at q
            have hk1 : (((k + 1 : Nat) : Int) - 1) = (k : Int) := by omega
            rw [hk1]
            have b9 : (k : Int) < (l.length : Int) := by omega
            have hwk : IntKind.i64.wrap ((k : Int) - 1) = (k : Int) - 1 := IntWalk.i64_in _ (by omega)
            by_cases hr : rightE x = true
            · rw [hr] at q
              obtain ⟨p, hp⟩ := addL_last (ofL (l.take k)) hr
              have hLx : L = p ++ [x] := by rw [HL2.out, hst, hp]
              have Q2 := Lib.hid q
              have HLX := Lib.hid hLx
              have HX := Lib.hid hx
              have HSM := Lib.hid hsm
              clear hx hst q hk1 hr hp hLx hsm
              go_wp2_with fail
              refine Q2.out.mono ?_
              rintro e w7 ⟨rfl, b7⟩
              clear v0 v1 v2
              obtain ⟨_, _, ee, v0, v1, v2⟩ := RdE.at (HI.out.rd.later (HB2.out.trans (b7.mono HB2.out.size))) HX.out
              obtain ⟨rfl, rfl⟩ : g = _ ∧ off = _ := by injection ee with ee; injection ee with a b; exact ⟨a, b⟩
              have hpl : L.length = p.length + 1 := by rw [HLX.out]; simp
              obtain ⟨g5, o5, rfl, y0, y1, y2⟩ := RdE.at (HR2.out.later b7) (j := p.length) (e := x) (by rw [HLX.out, List.getElem?_append_right (Nat.le_refl _), Nat.sub_self]; rfl)
              have HU1 := Lib.hid (show 1 ≤ (usesE L x.c).length by rw [HLX.out]; exact uses_last p x)
              have HG7 := Lib.hid (HG2.out.later b7)
              have HB7 := Lib.hid (HB2.out.trans (b7.mono HB2.out.size))
              have HLX2 := Lib.hid hpl
              obtain ⟨m, hm⟩ : ∃ m, m = p.length := ⟨_, rfl⟩
              rw [← hm] at hpl y0 y1 y2
              rw [hpl]
              have hm120 : m ≤ 120 := by omega
              have heq := fun W => Tryd.eq_rent x x W
              unfold entV at heq
              rw [decide_eq_true rfl] at heq
              have hwm : IntKind.i64.wrap (((m : Int) + 1) - 1) = (m : Int) := by rw [Int.add_sub_cancel]; exact IntWalk.i64_in _ (by omega)
              have hwm' : IntKind.i64.wrap (m : Int) = (m : Int) := IntWalk.i64_in _ (by omega)
              have b8 : (m : Int) < (m : Int) + 1 := by omega
              have HHE := Lib.hid heq
              clear hm ee b7 heq
              go_wp2_with fail
              have D0 : Below w7.heap.size w7 w7.drew := (Below.refl _ w7).drew
              have FC : ∀ W, Below w7.heap.size w7 W → (W.cell? ⟨g5, o5 + m * 3, none⟩ = some (.int .i64 x.t) ∧ W.cell? ⟨g5, o5 + m * 3 + 1, none⟩ = some (str x.d) ∧ W.cell? ⟨g5, o5 + m * 3 + 2, none⟩ = some (str x.c)) ∧ (W.cell? ⟨g, off + k * 3, none⟩ = some (.int .i64 x.t) ∧ W.cell? ⟨g, off + k * 3 + 1, none⟩ = some (str x.d) ∧ W.cell? ⟨g, off + k * 3 + 2, none⟩ = some (str x.c)) := fun W hW => ⟨⟨cellB hW y0, cellB hW y1, cellB hW y2⟩, ⟨cellB hW v0, cellB hW v1, cellB hW v2⟩⟩
              have heq := HHE.out
              have iu : decide ((1 : Int) ≤ ((usesE L x.c).length : Int)) = true := decide_eq_true (by have := HU1.out; omega)
              have iu2 : (1 : Int) ≤ ((usesE L x.c).length : Int) := by have := HU1.out; omega
              refine wp_region_held_drew (S := fun w' => Hid (Below w7.heap.size w7 w') ∧ (w'.cell? ⟨g5, o5 + m * 3, none⟩ = some (.int .i64 x.t) ∧ w'.cell? ⟨g5, o5 + m * 3 + 1, none⟩ = some (str x.d) ∧ w'.cell? ⟨g5, o5 + m * 3 + 2, none⟩ = some (str x.c)) ∧ (w'.cell? ⟨g, off + k * 3, none⟩ = some (.int .i64 x.t) ∧ w'.cell? ⟨g, off + k * 3 + 1, none⟩ = some (str x.d) ∧ w'.cell? ⟨g, off + k * 3 + 2, none⟩ = some (str x.c))) (by kernel_rfl) ⟨Lib.hid D0, FC _ D0⟩ (fun hHeld => ?_)
              refine wpAnyH_ready (rs := [0]) (by kernel_rfl) (by simp) ?_
              refine AllReadyH.cons (o := { dst := some 63, op := Op.call { callee := Callee.value (Operand.func 11), args := #[], argTypes := #[] }, type := 4, pos := "law.go:213", after := #[], guard := none }) rfl (fun K hK => ?_) AllReadyH.nil
              go_simp
              refine (al15_calls w7.drew (HI.out.u8.later (HB7.out.trans (D0.mono HB7.out.size)))).mono ?_
              rintro e w8 ⟨rfl, b8'⟩
              have D8 : Below w7.heap.size w7 w8 := D0.trans (b8'.mono D0.size)
              refine hK.out _ _ ⟨Lib.hid D8, FC w8 D8⟩ (fun hHeld => ?_)
              clear hK K
              try simp only [Act.put, List.setIfInBounds_toArray, List.set_cons_zero, List.set_cons_succ]
              refine wpAnyH_take (i := 1) (oi := { dst := some 64, op := Op.move (Operand.tmp 63), type := 4, pos := "law.go:213", after := #[{ on := 0, ground := Ground.data }, { on := 0, ground := Ground.chain }], guard := none }) (v := ?_) rfl (by kernel_rfl) (by kernel_rfl) (by kernel_rfl) (fun _ _ _ h => h) (Or.inl ⟨by rfl, ?hy1⟩) (by assumption) ?_
              case hy1 => (intro w hSw; (try dsimp only at hSw); go_simp); (try with_reducible rfl)
              try simp only [Act.put, List.setIfInBounds_toArray, List.set_cons_zero, List.set_cons_succ]
              refine wpAnyH_take (i := 2) (oi := { dst := some 65, op := Op.move (Operand.tmp 4), type := 22, pos := "law.go:213", after := #[{ on := 1, ground := Ground.guard }], guard := some (1, true) }) (v := ?_) rfl (by kernel_rfl) (by kernel_rfl) (by kernel_rfl) (fun _ _ _ h => h) (Or.inl ⟨by rfl, ?hy2⟩) (by assumption) ?_
              case hy2 => (intro w hSw; (try dsimp only at hSw); go_simp); (try with_reducible rfl)
              try simp only [Act.put, List.setIfInBounds_toArray, List.set_cons_zero, List.set_cons_succ]
              refine wpAnyH_take (i := 3) (oi := { dst := some 66, op := Op.move (Operand.tmp 4), type := 22, pos := "law.go:213", after := #[{ on := 1, ground := Ground.guard }], guard := some (1, true) }) (v := ?_) rfl (by kernel_rfl) (by kernel_rfl) (by kernel_rfl) (fun _ _ _ h => h) (Or.inl ⟨by rfl, ?hy3⟩) (by assumption) ?_
              case hy3 => (intro w hSw; (try dsimp only at hSw); go_simp); (try with_reducible rfl)
              try simp only [Act.put, List.setIfInBounds_toArray, List.set_cons_zero, List.set_cons_succ]
              refine wpAnyH_take (i := 4) (oi := { dst := some 67, op := Op.call { callee := Callee.builtin Builtin.len, args := #[Operand.tmp 66], argTypes := #[22] }, type := 3, pos := "law.go:213", after := #[{ on := 3, ground := Ground.data }, { on := 1, ground := Ground.guard }], guard := some (1, true) }) (v := ?_) rfl (by kernel_rfl) (by kernel_rfl) (by kernel_rfl) (fun _ _ _ h => h) (Or.inl ⟨by rfl, ?hy4⟩) (by assumption) ?_
              case hy4 => (intro w hSw; (try dsimp only at hSw); go_simp); (try with_reducible rfl)
              try simp only [Act.put, List.setIfInBounds_toArray, List.set_cons_zero, List.set_cons_succ]
              refine wpAnyH_take (i := 5) (oi := { dst := some 68, op := Op.binOp BinOp.sub 3 (Operand.tmp 67) (Operand.const (Value.int IntKind.i64 1)) 3, type := 3, pos := "law.go:213", after := #[{ on := 4, ground := Ground.data }, { on := 1, ground := Ground.guard }], guard := some (1, true) }) (v := ?_) rfl (by kernel_rfl) (by kernel_rfl) (by kernel_rfl) (fun _ _ _ h => h) (Or.inl ⟨by rfl, ?hy5⟩) (by assumption) ?_
              case hy5 => (intro w hSw; (try dsimp only at hSw); go_simp); (try with_reducible rfl)
              try simp only [Act.put, List.setIfInBounds_toArray, List.set_cons_zero, List.set_cons_succ]
              refine wpAnyH_take (i := 6) (oi := { dst := some 69, op := Op.indexAddr 22 (Operand.tmp 65) (Operand.tmp 68), type := 0, pos := "law.go:213", after := #[{ on := 2, ground := Ground.data }, { on := 5, ground := Ground.data }, { on := 1, ground := Ground.guard }], guard := some (1, true) }) (v := ?_) rfl (by kernel_rfl) (by kernel_rfl) (by kernel_rfl) (fun _ _ _ h => h) (Or.inl ⟨by rfl, ?hy6⟩) (by assumption) ?_
              case hy6 => (intro w hSw; (try dsimp only at hSw); go_simp); (try with_reducible rfl)
              try simp only [Act.put, List.setIfInBounds_toArray, List.set_cons_zero, List.set_cons_succ]
              refine wpAnyH_take (i := 7) (oi := { dst := some 70, op := Op.load 28 (Operand.tmp 69), type := 28, pos := "law.go:213", after := #[{ on := 6, ground := Ground.data }, { on := 1, ground := Ground.guard }], guard := some (1, true) }) (v := ?_) rfl (by kernel_rfl) (by kernel_rfl) (by kernel_rfl) (fun _ _ _ h => h) (Or.inl ⟨by rfl, ?hy7⟩) (by assumption) ?_
              case hy7 => (intro w hSw; (try dsimp only at hSw); go_simp); (try with_reducible rfl)
              try simp only [Act.put, List.setIfInBounds_toArray, List.set_cons_zero, List.set_cons_succ]
              refine wpAnyH_take (i := 8) (oi := { dst := some 71, op := Op.move (Operand.tmp 0), type := 22, pos := "law.go:213", after := #[{ on := 1, ground := Ground.guard }], guard := some (1, true) }) (v := ?_) rfl (by kernel_rfl) (by kernel_rfl) (by kernel_rfl) (fun _ _ _ h => h) (Or.inl ⟨by rfl, ?hy8⟩) (by assumption) ?_
              case hy8 => (intro w hSw; (try dsimp only at hSw); go_simp); (try with_reducible rfl)
              try simp only [Act.put, List.setIfInBounds_toArray, List.set_cons_zero, List.set_cons_succ]
              refine wpAnyH_take (i := 9) (oi := { dst := some 72, op := Op.move (Operand.tmp 8), type := 3, pos := "law.go:213", after := #[{ on := 1, ground := Ground.guard }], guard := some (1, true) }) (v := ?_) rfl (by kernel_rfl) (by kernel_rfl) (by kernel_rfl) (fun _ _ _ h => h) (Or.inl ⟨by rfl, ?hy9⟩) (by assumption) ?_
              case hy9 => (intro w hSw; (try dsimp only at hSw); go_simp); (try with_reducible rfl)
              try simp only [Act.put, List.setIfInBounds_toArray, List.set_cons_zero, List.set_cons_succ]
              refine wpAnyH_take (i := 10) (oi := { dst := some 73, op := Op.indexAddr 22 (Operand.tmp 71) (Operand.tmp 72), type := 0, pos := "law.go:213", after := #[{ on := 8, ground := Ground.data }, { on := 9, ground := Ground.data }, { on := 1, ground := Ground.guard }], guard := some (1, true) }) (v := ?_) rfl (by kernel_rfl) (by kernel_rfl) (by kernel_rfl) (fun _ _ _ h => h) (Or.inl ⟨by rfl, ?hy10⟩) (by assumption) ?_
              case hy10 => (intro w hSw; (try dsimp only at hSw); go_simp); (try with_reducible rfl)
              try simp only [Act.put, List.setIfInBounds_toArray, List.set_cons_zero, List.set_cons_succ]
              refine wpAnyH_take (i := 11) (oi := { dst := some 74, op := Op.load 28 (Operand.tmp 73), type := 28, pos := "law.go:213", after := #[{ on := 10, ground := Ground.data }, { on := 1, ground := Ground.guard }], guard := some (1, true) }) (v := ?_) rfl (by kernel_rfl) (by kernel_rfl) (by kernel_rfl) (fun _ _ _ h => h) (Or.inl ⟨by rfl, ?hy11⟩) (by assumption) ?_
              case hy11 => (intro w hSw; (try dsimp only at hSw); go_simp); (try with_reducible rfl)
              try simp only [Act.put, List.setIfInBounds_toArray, List.set_cons_zero, List.set_cons_succ]
              refine wpAnyH_take (i := 12) (oi := { dst := some 75, op := Op.binOp BinOp.eql 28 (Operand.tmp 70) (Operand.tmp 74) 28, type := 4, pos := "law.go:213", after := #[{ on := 7, ground := Ground.data }, { on := 11, ground := Ground.data }, { on := 1, ground := Ground.guard }], guard := some (1, true) }) (v := ?_) rfl (by kernel_rfl) (by kernel_rfl) (by kernel_rfl) (fun _ _ _ h => h) (Or.inl ⟨by rfl, ?hy12⟩) (by assumption) ?_
              case hy12 => (intro w hSw; (try dsimp only at hSw); go_simp); (try with_reducible rfl)
              try simp only [Act.put, List.setIfInBounds_toArray, List.set_cons_zero, List.set_cons_succ]
              refine wpAnyH_take (i := 13) (oi := { dst := some 76, op := Op.pick (Operand.tmp 64) (Operand.tmp 75) (Operand.const (Value.bool false)), type := 4, pos := "law.go:213", after := #[{ on := 1, ground := Ground.data }, { on := 12, ground := Ground.data }], guard := none }) (v := ?_) rfl (by kernel_rfl) (by kernel_rfl) (by kernel_rfl) (fun _ _ _ h => h) (Or.inl ⟨by rfl, ?hy13⟩) (by assumption) ?_
              case hy13 => (intro w hSw; (try dsimp only at hSw); go_simp); (try with_reducible rfl)
              try simp only [Act.put, List.setIfInBounds_toArray, List.set_cons_zero, List.set_cons_succ]
              refine wpAnyH_take (i := 14) (oi := { dst := some 77, op := Op.move (Operand.tmp 76), type := 4, pos := "law.go:213", after := #[{ on := 13, ground := Ground.data }, { on := 1, ground := Ground.chain }], guard := none }) (v := ?_) rfl (by kernel_rfl) (by kernel_rfl) (by kernel_rfl) (fun _ _ _ h => h) (Or.inl ⟨by rfl, ?hy14⟩) (by assumption) ?_
              case hy14 => (intro w hSw; (try dsimp only at hSw); go_simp); (try with_reducible rfl)
              try simp only [Act.put, List.setIfInBounds_toArray, List.set_cons_zero, List.set_cons_succ]
              refine wpAnyH_take (i := 15) (oi := { dst := some 78, op := Op.move (Operand.tmp 3), type := 25, pos := "law.go:213", after := #[{ on := 14, ground := Ground.guard }], guard := some (14, true) }) (v := ?_) rfl (by kernel_rfl) (by kernel_rfl) (by kernel_rfl) (fun _ _ _ h => h) (Or.inl ⟨by rfl, ?hy15⟩) (by assumption) ?_
              case hy15 => (intro w hSw; (try dsimp only at hSw); go_simp); (try with_reducible rfl)
              try simp only [Act.put, List.setIfInBounds_toArray, List.set_cons_zero, List.set_cons_succ]
              refine wpAnyH_take (i := 16) (oi := { dst := some 79, op := Op.move (Operand.tmp 0), type := 22, pos := "law.go:213", after := #[{ on := 14, ground := Ground.guard }], guard := some (14, true) }) (v := ?_) rfl (by kernel_rfl) (by kernel_rfl) (by kernel_rfl) (fun _ _ _ h => h) (Or.inl ⟨by rfl, ?hy16⟩) (by assumption) ?_
              case hy16 => (intro w hSw; (try dsimp only at hSw); go_simp); (try with_reducible rfl)
              try simp only [Act.put, List.setIfInBounds_toArray, List.set_cons_zero, List.set_cons_succ]
              refine wpAnyH_take (i := 17) (oi := { dst := some 80, op := Op.move (Operand.tmp 8), type := 3, pos := "law.go:213", after := #[{ on := 14, ground := Ground.guard }], guard := some (14, true) }) (v := ?_) rfl (by kernel_rfl) (by kernel_rfl) (by kernel_rfl) (fun _ _ _ h => h) (Or.inl ⟨by rfl, ?hy17⟩) (by assumption) ?_
              case hy17 => (intro w hSw; (try dsimp only at hSw); go_simp); (try with_reducible rfl)
              try simp only [Act.put, List.setIfInBounds_toArray, List.set_cons_zero, List.set_cons_succ]
              refine wpAnyH_take (i := 18) (oi := { dst := some 81, op := Op.indexAddr 22 (Operand.tmp 79) (Operand.tmp 80), type := 0, pos := "law.go:213", after := #[{ on := 16, ground := Ground.data }, { on := 17, ground := Ground.data }, { on := 14, ground := Ground.guard }], guard := some (14, true) }) (v := ?_) rfl (by kernel_rfl) (by kernel_rfl) (by kernel_rfl) (fun _ _ _ h => h) (Or.inl ⟨by rfl, ?hy18⟩) (by assumption) ?_
              case hy18 => (intro w hSw; (try dsimp only at hSw); go_simp); (try with_reducible rfl)
              try simp only [Act.put, List.setIfInBounds_toArray, List.set_cons_zero, List.set_cons_succ]
              refine wpAnyH_take (i := 19) (oi := { dst := some 82, op := Op.fieldAddr 28 (Operand.tmp 81) 2, type := 0, pos := "law.go:213", after := #[{ on := 18, ground := Ground.data }, { on := 14, ground := Ground.guard }], guard := some (14, true) }) (v := ?_) rfl (by kernel_rfl) (by kernel_rfl) (by kernel_rfl) (fun _ _ _ h => h) (Or.inl ⟨by rfl, ?hy19⟩) (by assumption) ?_
              case hy19 => (intro w hSw; (try dsimp only at hSw); go_simp); (try with_reducible rfl)
              try simp only [Act.put, List.setIfInBounds_toArray, List.set_cons_zero, List.set_cons_succ]
              refine wpAnyH_take (i := 20) (oi := { dst := some 83, op := Op.load 9 (Operand.tmp 82), type := 9, pos := "law.go:213", after := #[{ on := 19, ground := Ground.data }, { on := 14, ground := Ground.guard }], guard := some (14, true) }) (v := ?_) rfl (by kernel_rfl) (by kernel_rfl) (by kernel_rfl) (fun _ _ _ h => h) (Or.inl ⟨by rfl, ?hy20⟩) (by assumption) ?_
              case hy20 => (intro w hSw; (try dsimp only at hSw); go_simp); (try with_reducible rfl)
              try simp only [Act.put, List.setIfInBounds_toArray, List.set_cons_zero, List.set_cons_succ]
              refine wpAnyH_ready (rs := [21]) (by kernel_rfl) (by simp) ?_
              refine AllReadyH.cons (o := { dst := some 84, op := Op.call { callee := Callee.value (Operand.func 24), args := #[Operand.tmp 78, Operand.tmp 83], argTypes := #[25, 9] }, type := 46, pos := "law.go:213", after := #[{ on := 15, ground := Ground.data }, { on := 20, ground := Ground.data }, { on := 14, ground := Ground.chain }, { on := 14, ground := Ground.guard }], guard := some (14, true) }) rfl (fun K hK => ?_) AllReadyH.nil
              go_simp
              refine (HgUses_calls w8 (HG7.out.later D8) (by have := HLX2.out; omega) x.c _ rfl).mono ?_
              rintro e w9 ⟨A9, c9, rfl, _, b9'⟩
              have D9 : Below w7.heap.size w7 w9 := D8.trans (b9'.mono D8.size)
              refine hK.out _ _ ⟨Lib.hid D9, FC w9 D9⟩ (fun hHeld => ?_)
              clear hK K
              try simp only [Act.put, List.setIfInBounds_toArray, List.set_cons_zero, List.set_cons_succ]
              refine wpAnyH_take (i := 22) (oi := { dst := some 85, op := Op.call { callee := Callee.builtin Builtin.len, args := #[Operand.tmp 84], argTypes := #[46] }, type := 3, pos := "law.go:213", after := #[{ on := 21, ground := Ground.data }, { on := 14, ground := Ground.guard }], guard := some (14, true) }) (v := ?_) rfl (by kernel_rfl) (by kernel_rfl) (by kernel_rfl) (fun _ _ _ h => h) (Or.inl ⟨by rfl, ?hy22⟩) (by assumption) ?_
              case hy22 => (intro w hSw; (try dsimp only at hSw); go_simp); (try with_reducible rfl)
              try simp only [Act.put, List.setIfInBounds_toArray, List.set_cons_zero, List.set_cons_succ]
              refine wpAnyH_take (i := 23) (oi := { dst := some 86, op := Op.binOp BinOp.geq 3 (Operand.tmp 85) (Operand.const (Value.int IntKind.i64 1)) 3, type := 4, pos := "law.go:213", after := #[{ on := 22, ground := Ground.data }, { on := 14, ground := Ground.guard }], guard := some (14, true) }) (v := ?_) rfl (by kernel_rfl) (by kernel_rfl) (by kernel_rfl) (fun _ _ _ h => h) (Or.inl ⟨by rfl, ?hy23⟩) (by assumption) ?_
              case hy23 => (intro w hSw; (try dsimp only at hSw); go_simp); (try with_reducible rfl)
              try simp only [Act.put, List.setIfInBounds_toArray, List.set_cons_zero, List.set_cons_succ]
              refine wpAnyH_take (i := 24) (oi := { dst := some 87, op := Op.pick (Operand.tmp 77) (Operand.tmp 86) (Operand.const (Value.bool false)), type := 4, pos := "law.go:213", after := #[{ on := 14, ground := Ground.data }, { on := 23, ground := Ground.data }], guard := none }) (v := ?_) rfl (by kernel_rfl) (by kernel_rfl) (by kernel_rfl) (fun _ _ _ h => h) (Or.inl ⟨by rfl, ?hy24⟩) (by assumption) ?_
              case hy24 => (intro w hSw; (try dsimp only at hSw); go_simp); (try with_reducible rfl)
              try simp only [Act.put, List.setIfInBounds_toArray, List.set_cons_zero, List.set_cons_succ]
              refine wpAnyH_take (i := 25) (oi := { dst := some 2, op := Op.assign (Operand.tmp 87), type := 4, pos := "law.go:213", after := #[{ on := 24, ground := Ground.data }, { on := 21, ground := Ground.chain }, { on := 0, ground := Ground.phase }, { on := 1, ground := Ground.phase }, { on := 2, ground := Ground.phase }, { on := 3, ground := Ground.phase }, { on := 4, ground := Ground.phase }, { on := 5, ground := Ground.phase }, { on := 6, ground := Ground.phase }, { on := 7, ground := Ground.phase }, { on := 8, ground := Ground.phase }, { on := 9, ground := Ground.phase }, { on := 10, ground := Ground.phase }, { on := 11, ground := Ground.phase }, { on := 12, ground := Ground.phase }, { on := 13, ground := Ground.phase }, { on := 14, ground := Ground.phase }, { on := 15, ground := Ground.phase }, { on := 16, ground := Ground.phase }, { on := 17, ground := Ground.phase }, { on := 18, ground := Ground.phase }, { on := 19, ground := Ground.phase }, { on := 20, ground := Ground.phase }, { on := 21, ground := Ground.phase }, { on := 22, ground := Ground.phase }, { on := 23, ground := Ground.phase }, { on := 24, ground := Ground.phase }], guard := none }) (v := ?_) rfl (by kernel_rfl) (by kernel_rfl) (by kernel_rfl) (fun _ _ _ h => h) (Or.inl ⟨by rfl, ?hy25⟩) (by assumption) ?_
              case hy25 => (intro w hSw; (try dsimp only at hSw); go_simp); (try with_reducible rfl)
              try simp only [Act.put, List.setIfInBounds_toArray, List.set_cons_zero, List.set_cons_succ]
              refine wpAnyH_done (by kernel_rfl) ?_ _
              go_wp2
              go_ret
              exact ⟨by (try rw [← iu]); rfl, HB7.out.trans (D9.mono HB7.out.size)⟩
            · rw [show rightE x = false by simpa using hr] at q
              have hLx : L = ofL (l.take k) := by rw [HL2.out, hst, addL_wrong _ hr]
              have Q2 := Lib.hid q
              have HLX := Lib.hid hLx
              clear hx hst q hk1 hr hLx hsm
              go_wp2_with ((with_reducible refine Q2.out.mono ?_); rintro e w7 ⟨rfl, b7⟩)
              go_roundw
              case rel => exact ⟨k, rfl, by omega, HLX, Lib.hid (HG2.out.later b7), Lib.hid (HR2.out.later b7), Lib.hid (HB2.out.trans (b7.mono HB2.out.size))⟩
              case measure => simp [intOf]
end Go.Proofs.YtpemjhghiccngaaDoor
