import Derived.Test.YtkpfendodmfeoaaTw12
namespace Go.Proofs.Ytkpfendodmfeoaa
set_option linter.unusedVariables false
set_option linter.unusedSimpArgs false
open Go.RowKit
theorem shut_short {e : Bs} {y : Nd V} {r : F V} {L : Nat} (h1 : e.length ≤ L) (h2 : y.kids.Short (L - e.length)) (h3 : r.Short L) : (shut e y r).Short L := by
  obtain ⟨ye, yi, yv, ym, yk⟩ := y
  unfold shut
  split
  · exact h3
  · cases yi with
    | true => exact ⟨h1, h2, h3⟩
    | false =>
      cases yk with
      | nil => exact ⟨h1, h2, h3⟩
      | cons e2 i2 w2 m2 k2 r2 =>
        cases r2 with
        | nil =>
          obtain ⟨a, b, c⟩ := h2
          exact ⟨by rw [List.length_append]; omega, b.mono (by rw [List.length_append]; omega), h3⟩
        | cons e3 i3 w3 m3 k3 r3 => exact ⟨h1, h2, h3⟩
theorem dropF_short : ∀ (n : Nat) (s : Bs), s.length = n → ∀ (f : F V) (L : Nat), (∀ k y, f.nth k = some y → y.edge ≠ []) → f.WF → f.Short L → (dropF zeroV f s).Short L := by
  intro n
  induction n using Nat.strongRecOn with
  | _ n ih =>
    intro s hn f
    induction f with
    | nil => intro L _ _ _; rw [dropF]; trivial
    | cons e i w m k r _ ihr =>
      intro L hne hW ⟨h1, h2, h3⟩
      obtain ⟨w1, w2, w3, w4⟩ := hW
      rw [dropF]
      split
      · exact ⟨h1, h2, ihr L (fun k y h => (w4.nth h).1) w4 h3⟩
      · split
        · rename_i hc
          split
          · exact shut_short h1 h2 h3
          · exact shut_short h1 (ih _ (by rw [List.length_drop]; omega) _ rfl k _ (fun k y h => (w3.nth h).1) w3 h2) h3
        · exact ⟨h1, h2, h3⟩
theorem backF_0 {f : F V} {j : Nat} {y : Nd V} (h : y.many = 0) : backF f j y = f.del j := by unfold backF; rw [if_pos h]
theorem backF_1 {f : F V} {j : Nat} {y : Nd V} {e2 : Bs} {i2 : Bool} {w2 : V} {m2 : Nat} {k2 : F V} (h : ¬ y.many = 0) (h1 : y.is = false) (h2 : y.kids = .cons e2 i2 w2 m2 k2 .nil) : backF f j y = f.set j ⟨y.edge ++ e2, i2, w2, m2, k2⟩ := by
  unfold backF; rw [if_neg h, h1, h2]
theorem backF_2 {f : F V} {j : Nat} {y : Nd V} (h : ¬ y.many = 0) (h1 : y.is = true ∨ ¬ y.kids.len = 1) : backF f j y = f.set j y := by
  obtain ⟨ye, yi, yv, ym, yk⟩ := y
  unfold backF
  rw [if_neg h]
  cases yi with
  | true => rfl
  | false =>
    cases yk with
    | nil => rfl
    | cons e2 i2 w2 m2 k2 r2 =>
      cases r2 with
      | nil => rcases h1 with e | e; cases e; exact absurd rfl e
      | cons e3 i3 w3 m3 k3 r3 => rfl
theorem F.one {f : F V} (h : f.len = 1) : ∃ e2 i2 w2 m2 k2, f = .cons e2 i2 w2 m2 k2 .nil := by
  cases f with
  | nil => simp [F.len] at h
  | cons e2 i2 w2 m2 k2 r2 =>
    cases r2 with
    | nil => exact ⟨_, _, _, _, _, rfl⟩
    | cons e3 i3 w3 m3 k3 r3 => simp [F.len] at h
theorem dropN_edge (z : V) (y : Nd V) (s : Bs) : (dropN z y s).edge = y.edge := by unfold dropN; split <;> rfl
def DropPost (w : World) (a : Nat) (fa : List Nat) (y : Nd V) (w' : World) : Prop := ∃ fa', RepN encV w' y a fa' ∧ fa'.Nodup ∧ (∀ b ∈ fa', b ∈ fa ∨ w.heap.size ≤ b) ∧ Fr (fun b => b ∈ fa) w w'
set_option maxHeartbeats 3200000 in
set_option maxRecDepth 100000 in
/-- node.drop. -/
theorem drop_calls : ∀ (N : Nat) (l : Bs), l.length = N → N ≤ 4294967296 → ∀ (s : ByteArray), s = ⟨l.toArray⟩ → ∀ (w : World) (a : Nat) (n : Nd V) (fa : List Nat) (M : Nat) (u : V), RepN encV w n a fa → fa.Nodup → n.kids.WF → n.kids.Short M → M ≤ 4294967296 →
    n.many = n.ents.length → n.kids.Many → n.ents.length ≤ 4294967296 → lget n.ents l = some u →
    Calls Try.prog 39 #[ptr a, .string s] w fun e w' => (∃ v, e = .returned v) ∧ DropPost w a fa (dropN zeroV n l) w' := by
  intro N
  induction N using Nat.strongRecOn with
  | _ N ih =>
    intro t hN hNl st hst w a n fa M u hr hnd hW hS hM hm hkm hel hg
    have IH := Lib.hid ih
    obtain ⟨sv, qs, fk, hn, _⟩ := id hr
    obtain ⟨k0, k1, k2, k3, k4⟩ := hn.cells
    have f1 := frozen_of_row w a 1 _ _ hn
    have f2 := frozen_of_row w a 2 _ _ hn
    have f3 := frozen_of_row w a 3 _ _ hn
    have halt := hn.lt
    have hm1 : 1 ≤ n.many := by
      rw [hm]
      exact List.length_pos_iff.2 fun e => by rw [e] at hg; cases hg
    have hw1 : IntKind.i64.wrap ((n.many : Int) - 1) = ((n.many - 1 : Nat) : Int) := by
      rw [show ((n.many : Nat) : Int) - 1 = ((n.many - 1 : Nat) : Int) by omega]; exact IntWalk.i64_in _ (by omega)
    have hfa : a ∈ fa := hr.mem
    have hsz : st.size = t.length := by rw [hst, str_of]
    have hr1 := hr.setMany hnd (n.many - 1)
    have HR1 := Lib.hid hr1
    have HG := Lib.hid hg
    have HM := Lib.hid hm
    clear hm ih hr hn k0 k4 hr1 hg
    by_cases h0 : t = []
    · have hem : st.toList.isEmpty = true := by rw [hst, h0, ByteArray.toList_eq]; rfl
      have HST := Lib.hid hst
      have H0 := Lib.hid h0
      clear hst h0
      go_enter Try.func39, Try.ntmps39
      go_wp2
      refine bodyPost_ret (results_none rfl _ _ _) rfl ?_
      refine ⟨⟨_, rfl⟩, fa, ?_, hnd, fun b hb => .inl hb, ?_⟩
      · have r1 := HR1.out.setEnd hnd false zeroV
        unfold dropN
        rw [if_pos H0.out]
        exact r1
      · exact ((Fr.setCell w ⟨a, 3, none⟩ _).trans (Fr.setCell _ ⟨a, 1, none⟩ _) (fun _ _ e => e)).trans (Fr.setCell _ ⟨a, 2, none⟩ _) (fun _ _ e => e) |>.mono fun i _ e => by rw [e]; exact hfa
    · have hse : st.toList.isEmpty = false := str_ne hst h0
      have hpos := List.length_pos_iff.2 h0
      have h1 : (0 : Int) < (st.size : Int) := by omega
      have h1' : 0 < st.size := by omega
      have hs0 := hd_s0 hst h1'
      have HST := Lib.hid hst
      have hh : hd t < 256 := at_lt t 0
      have hlen : n.kids.len ≤ 4294967296 := by have := F.ord_len hW.ord; omega
      obtain ⟨hhas, y, hy, hyh, hyl, hyg⟩ := drop_down hW h0 HG.out
      obtain ⟨hye, hyW⟩ := hW.nth hy
      obtain ⟨hyl2, hyS⟩ := hS.nth hy
      obtain ⟨m1, m2, m3⟩ := hkm.nth hy
      have hke : n.kids.ents.length ≤ n.ents.length := by rw [Nd.ents, List.length_append]; omega
      obtain ⟨W1, hW1⟩ : ∃ W1, W1 = w.setCell ⟨a, 3, none⟩ (n64 (n.many - 1)) := ⟨_, rfl⟩
      have hF1 : Fr (fun b => b ∈ fa) w W1 := by rw [hW1]; exact (Fr.setCell w ⟨a, 3, none⟩ _).mono fun i _ e => by rw [e]; exact hfa
      have hr2 := HR1.out
      rw [← hW1] at hr2
      have hbel := below_calls W1 _ a fa hr2 hW.ord (hd t) hh hlen
      dsimp only at hbel
      rw [hhas] at hbel
      have hput := dropF_yes hye hyl hy hyh
      obtain ⟨ix, hix⟩ : ∃ ix, ix = n.kids.idx (hd t) := ⟨_, rfl⟩
      rw [← hix] at hbel hput hy
      obtain ⟨g, off, cap, a2, qs2, f2', fo, P⟩ := Parts.of hr2 hy
      have c1 := P.nd.cells.2.2.2.2
      dsimp only at c1
      have P13 := (P.nodup hnd).2.2.2.2.2.2.2.2.2.2.2.2
      dsimp only at P13
      have hnf := (P.nodup hnd).2.2.2.2.2.1
      have hqm : (qs2.map ptr)[ix]? = some (ptr a2) := by rw [List.getElem?_map, P.at_]; rfl
      obtain ⟨A9, cap9, hA9, _, _, hrd, _⟩ := P.row.rd
      obtain ⟨g9, off9, rfl, c2⟩ := hrd ix (ptr a2) hqm
      cases hA9
      clear hrd hqm
      have c3 := P.kid.edge
      obtain ⟨se, hse2⟩ : ∃ se : ByteArray, se = ⟨y.edge.toArray⟩ := ⟨_, rfl⟩
      have hsez : se.size = y.edge.length := by rw [hse2, str_of]
      rw [lit_of hse2] at c3
      have HSE := Lib.hid hse2
      have hx := extract_eq t y.edge.length t.length
      rw [← HST.out, List.take_length, hN] at hx
      have HX := Lib.hid hx
      have i1 : (ix : Int) < (n.kids.len : Int) := by omega
      have i3 : (y.edge.length : Int) ≤ (t.length : Int) := by omega
      have hpe := List.length_pos_iff.2 hye
      have hrec := IH.out (N - y.edge.length) (by omega) (t.drop y.edge.length) (by rw [List.length_drop]; omega) (by omega) _ hx W1 a2 y f2' (M - y.edge.length) u P.kid hnf hyW hyS (by omega) m1 m2 (by omega) hyg
      have HREC := Lib.hid hrec
      have hys2 : (dropN zeroV y (List.drop y.edge.length t)).kids.Short (M - y.edge.length) := by
        unfold dropN
        split
        · exact hyS
        · exact dropF_short _ _ rfl _ _ (fun k y h => (hyW.nth h).1) hyW hyS
      have HPUT := Lib.hid hput
      have HF1 := Lib.hid hF1
      have HW1 := Lib.hid hW1
      have HB := Lib.hid hbel
      have HP := Lib.hid P
      have hw2 : IntKind.i64.wrap ((ix : Int) + 1) = ((ix + 1 : Nat) : Int) := by
        rw [show ((ix : Nat) : Int) + 1 = ((ix + 1 : Nat) : Int) by omega]; exact IntWalk.i64_in _ (by omega)
      clear hrec hput hF1 hbel hse2 hx hst hy hyh hyg hyS hyW hhas m1 m2 P hix IH HR1 HG HM hkm hS hW hr2
      go_enter Try.func39, Try.ntmps39
      clear hW1
      go_wp2_with fail
      rw [show w.setCell ⟨a, 3, none⟩ (n64 (n.many - 1)) = W1 from HW1.out.symm]
      refine HB.out.mono ?_
      rintro e9 w' ⟨rfl, rfl⟩
      clear HB
      go_wp2_with fail
      refine HREC.out.mono ?_
      rintro e8 w2 ⟨⟨rv, rfl⟩, fb2, r2, n2, s2, F2⟩
      clear HREC
      have hye2 : (dropN zeroV y (List.drop y.edge.length t)).edge = y.edge := dropN_edge _ _ _
      obtain ⟨y', hy'⟩ : ∃ y', y' = dropN zeroV y (List.drop y.edge.length t) := ⟨_, rfl⟩
      rw [← hy'] at r2 HPUT hye2 hys2
      have HYS2 := Lib.hid hys2
      clear hys2
      clear hy'
      obtain ⟨P2, hnd2, hsz2⟩ := Parts.step HP.out hnd r2 n2 s2 F2
      have hrow2 := P2.row
      have q4 := P2.nd.cells.2.2.2.2
      dsimp only at hrow2 q4
      rw [F.set_len] at hrow2 q4
      have fa4 := frozen_of_row w2 a 4 _ _ P2.nd
      have hF2 : Fr (fun b => b ∈ fa) w w2 := HF1.out.trans (F2.mono fun i _ e => HP.out.perm.mem_iff.2 (by simp [e])) fun _ _ e => e
      obtain ⟨sv3, qs3, fk3, hn3, hk3, hr3, hp3⟩ := id r2
      obtain ⟨j0, j1, j2, j3, j4⟩ := hn3.cells
      have HJ := Lib.hid hn3
      obtain ⟨A3, cap3, rfl, _⟩ := hk3.rd
      have HN2 := Lib.hid hnd2
      have HP2 := Lib.hid P2
      have HS2 := Lib.hid hsz2
      have HF2 := Lib.hid hF2
      have HR3 := Lib.hid hr3
      have HK3 := Lib.hid hk3
      have HROW2 := Lib.hid hrow2
      have hW1s := HF1.out.size
      have hfag : g ∈ fa := HP.out.perm.mem_iff.2 (by simp)
      clear P2 hnd2 hsz2 hF2 hn3 hr3 hk3 r2 n2 s2 F2 hrow2 HF1 HP
      have hdn : ∀ f, f = dropF zeroV n.kids t → dropN zeroV n t = ⟨n.edge, n.is, n.v, n.many - 1, f⟩ := fun f e => by unfold dropN; rw [if_neg h0, e]
      have HDN := Lib.hid hdn
      clear hdn
      by_cases hm0 : y'.many = 0
      · go_wp2_with fail
        refine (show Calls _ _ #[_, _, .int .i64 ((ix + 1 : Nat) : Int)] _ _ from (Delete_calls w2 _ n.kids.len qs2 HROW2.out ix P13 (ix + 1) rfl).mono ?_)
        rintro e7 w3 ⟨sv', rfl, hk4, hg4, hob⟩
        obtain ⟨A4, c4, rfl, _⟩ := id hk4.rd
        have hag : a ≠ g := fun e => by have := (List.nodup_cons.1 HN2.out).1; rw [e] at this; simp at this
        have f34 : w3.frozen? ⟨a, 4, none⟩ = false := frozen_of_row w3 a 4 _ _ ((hg4.block a (HP2.out.nd.lt) (fun e => hag (Option.some.inj e))).trans HP2.out.nd)
        have c34 : w3.cell? ⟨a, 4, none⟩ = some (.slice (some ⟨g, off, none⟩) n.kids.len cap) := (NdAt.cells ((hg4.block a (HP2.out.nd.lt) (fun e => hag (Option.some.inj e))).trans HP2.out.nd)).2.2.2.2.trans (by rw [F.set_len])
        have HK4 := Lib.hid hk4
        have HG4 := Lib.hid hg4
        have HOB := Lib.hid hob
        clear hk4 hg4 hob
        go_wp2
        go_end0
        obtain ⟨fb', r5, n5, s5⟩ := HP2.out.gone HN2.out (by rw [F.set_len]; exact HK4.out) HG4.out HOB.out
        refine ⟨⟨_, rfl⟩, fb', ?_, n5, fun b hb => ?_, ?_⟩
        · rw [HDN.out _ HPUT.out.symm, backF_0 hm0]
          rw [F.set_del] at r5
          exact r5
        · rcases HS2.out b (s5 b hb) with h | h
          · exact .inl h
          · exact .inr (Nat.le_trans hW1s h)
        · refine (HF2.out.trans (S' := fun b => b ∈ fa) (Fr.of_grown HG4.out |>.mono fun i _ e => by cases e; exact hfag) (fun _ _ e => e)).trans (Fr.setCell w3 ⟨a, 4, none⟩ _) (fun i _ e => by rw [e]; exact hfa)
      · have hmp : ¬ ((y'.many : Int) = 0) := by omega
        by_cases hc : y'.is = true ∨ ¬ y'.kids.len = 1
        · have hfin : ∀ w', w' = w2 → DropPost w a fa (dropN zeroV n t) w' := fun w' e => by
            rw [e]
            refine ⟨_, ?_, HN2.out, fun b hb => ?_, HF2.out⟩
            · rw [HDN.out _ HPUT.out.symm, backF_2 hm0 hc]
              exact HP2.out.rep
            · rcases HS2.out b hb with h | h
              · exact .inl h
              · exact .inr (Nat.le_trans hW1s h)
          have HFIN := Lib.hid hfin
          clear hfin
          cases hi : y'.is with
          | true =>
            rw [hi] at j1
            go_wp2
            go_end0
            exact ⟨⟨_, rfl⟩, HFIN.out _ rfl⟩
          | false =>
            have hl1 : ¬ y'.kids.len = 1 := by rcases hc with e | e; rw [hi] at e; cases e; exact e
            rw [hi] at j1
            have hl2 : ¬ ((y'.kids.len : Int) = 1) := by omega
            go_wp2
            go_end0
            exact ⟨⟨_, rfl⟩, HFIN.out _ rfl⟩
        · obtain ⟨hi, hk1⟩ := not_or.1 hc
          have hi : y'.is = false := by cases h : y'.is; rfl; exact absurd h hi
          have hk1 : y'.kids.len = 1 := Decidable.not_not.1 hk1
          obtain ⟨e2, i2, v2, m2, k2, hkk⟩ := F.one hk1
          have hr3 := HR3.out
          rw [hkk] at hr3
          obtain ⟨a3, ps3, fa3, fr3, rfl, hg3, ⟨rfl, rfl⟩, hp3'⟩ := repF_cons.1 hr3
          obtain ⟨sv5, qs5, fk5, hn5, hk5, hr5, hp5⟩ := id hg3
          obtain ⟨A5, cap5, rfl, _⟩ := hk5.rd
          obtain ⟨A9, cap9, hA9, _, _, hrd, _⟩ := HK3.out.rd
          cases hA9
          obtain ⟨g3, off3, rfl, d1⟩ := hrd 0 (ptr a3) rfl
          rw [Nat.add_zero] at d1
          rw [hi] at j1
          rw [hk1] at j4
          obtain ⟨d50, d51, d52, d53, d54⟩ := hn5.cells
          dsimp only at d50 d51 d52 d53 d54
          obtain ⟨s2, hs2⟩ : ∃ s2 : ByteArray, s2 = ⟨e2.toArray⟩ := ⟨_, rfl⟩
          rw [lit_of hs2] at d50
          rw [hye2, lit_of HSE.out] at j0
          have HS5 := Lib.hid hs2
          have HN5 := Lib.hid hn5
          have HK5 := Lib.hid hk5
          have HR5 := Lib.hid hr5
          have HP5 := Lib.hid hp5
          have HP3 := Lib.hid hp3
          have HP3' := Lib.hid hp3'
          clear hn5 hk5 hr5 hp5 hp3' hr3 hrd hg3 hs2 hp3
          have hel2 : y.edge.length + e2.length ≤ 4294967296 := by
            have h := HYS2.out
            rw [hkk] at h
            have := h.1
            omega
          obtain ⟨sj, hsj⟩ : ∃ sj : ByteArray, sj = ⟨(y.edge ++ e2).toArray⟩ := ⟨_, rfl⟩
          have hadd : ∀ W, (Op.stringOp .add se s2).run Try.prog W = .ok (.string sj) W := fun W => by rw [hsj]; exact add_str HSE.out HS5.out hel2 W
          have HSJ := Lib.hid hsj
          have hfg : w2.frozen? ⟨g, off + ix, none⟩ = false := by
            rcases HROW2.out.2 with ⟨hv, h0⟩ | ⟨g', off', cap', cur, hv, hb, hg, _⟩
            · cases hv
            · cases hv; exact frozen_of_row w2 g _ _ _ hg
          have hcg : w2.cell? ⟨g, off + ix, none⟩ = some (ptr a2) := by
            obtain ⟨A8, cap8, hA8, _, _, hrd, _⟩ := HROW2.out.rd
            obtain ⟨g8, off8, rfl, c8⟩ := hrd ix (ptr a2) (by rw [List.getElem?_map, HP2.out.at_]; rfl)
            cases hA8
            exact c8
          have b1 : a2 < w2.heap.size := HJ.out.lt
          have b2 : g < w2.heap.size := (Row.lt HROW2.out g rfl).2
          have b3 : a < w2.heap.size := HP2.out.nd.lt
          have b4 : a2 ≠ w2.heap.size := by omega
          have b5 : g ≠ w2.heap.size := by omega
          have b6 : a ≠ w2.heap.size := by omega
          clear hsj
          go_wp2
          go_region
          go_wp2
          go_end0
          have hx1 : RepN encV ((w2.alloc (Obj.cells #[Value.string sj, Value.bool i2, Value.int IntKind.i64 v2, Value.int IntKind.i64 ↑m2, Value.slice A5 k2.len cap5] 57)).drew) ⟨y'.edge ++ e2, i2, v2, m2, k2⟩ w2.heap.size (w2.heap.size :: (rbl (Value.slice A5 k2.len cap5) ++ fk5)) := by
            refine ⟨.slice A5 k2.len cap5, qs5, fk5, ?_, Row.alloc HK5.out _, HR5.out.move fun b hb => Below.heap_alloc _ _ _ (HR5.out.lt b hb), List.Perm.refl _⟩
            rw [HSJ.out, hye2]
            exact heap_alloc_new w2 _
          have hnx : ∀ b ∈ w2.heap.size :: (rbl (Value.slice A5 k2.len cap5) ++ fk5), b ∈ fb2 ∨ w2.heap.size ≤ b := fun b hb => by
            rcases List.mem_cons.1 hb with e | hb
            · exact .inr (by omega)
            · exact .inl (HP3.out.mem_iff.2 (List.mem_cons_of_mem _ (List.mem_append_right _ (HP3'.out.mem_iff.2 (List.mem_append_left _ (HP5.out.mem_iff.2 (List.mem_cons_of_mem _ hb)))))))
          have hndx : (w2.heap.size :: (rbl (Value.slice A5 k2.len cap5) ++ fk5)).Nodup := by
            have h1 := (HP2.out.nodup HN2.out).2.2.2.2.2.1
            have h2 := HP3.out.nodup_iff.1 h1
            rw [List.nodup_cons, List.nodup_append] at h2
            have h3 := HP3'.out.nodup_iff.1 h2.2.2.1
            rw [List.append_nil] at h3
            have h4 := HP5.out.nodup_iff.1 h3
            refine List.nodup_cons.2 ⟨fun hm => ?_, (List.nodup_cons.1 h4).2⟩
            have h5 := (HP2.out.nodup HN2.out).2.2.2.2.2.2.2.2.2.2.2.1 w2.heap.size (HP3.out.mem_iff.2 (List.mem_cons_of_mem _ (List.mem_append_right _ (HP3'.out.mem_iff.2 (List.mem_append_left _ (HP5.out.mem_iff.2 (List.mem_cons_of_mem _ hm)))))))
            omega
          obtain ⟨fb', r6, n6, s6⟩ := HP2.out.swap HN2.out (w1 := (w2.alloc (Obj.cells #[Value.string sj, Value.bool i2, Value.int IntKind.i64 v2, Value.int IntKind.i64 ↑m2, Value.slice A5 k2.len cap5] 57)).drew) (fun b hb => Below.heap_alloc _ _ _ hb) hx1 hndx hnx
          have hF6 := (HF2.out.trans (Fr.alloc w2 (Obj.cells #[Value.string sj, Value.bool i2, Value.int IntKind.i64 v2, Value.int IntKind.i64 ↑m2, Value.slice A5 k2.len cap5] 57)) (fun _ _ e => e)).drew.trans (Fr.setCell _ ⟨g, off + ix, none⟩ (ptr w2.heap.size)) (fun i _ e => by rw [e]; exact hfag)
          have hcomm : (w2.alloc (Obj.cells #[Value.string sj, Value.bool i2, Value.int IntKind.i64 v2, Value.int IntKind.i64 ↑m2, Value.slice A5 k2.len cap5] 57)).drew.setCell ⟨g, off + ix, none⟩ (ptr w2.heap.size) = ((w2.setCell ⟨g, off + ix, none⟩ (ptr w2.heap.size)).alloc (Obj.cells #[Value.string sj, Value.bool i2, Value.int IntKind.i64 v2, Value.int IntKind.i64 ↑m2, Value.slice A5 k2.len cap5] 57)).drew := by
            have := World.setCell_alloc_past (w := w2) (Obj.cells #[Value.string sj, Value.bool i2, Value.int IntKind.i64 v2, Value.int IntKind.i64 ↑m2, Value.slice A5 k2.len cap5] 57) g (off + ix) (ptr w2.heap.size) b2
            rw [← this]; rfl
          rw [hcomm] at r6 hF6
          refine ⟨⟨_, rfl⟩, fb', ?_, n6, fun b hb => ?_, ?_⟩
          · rw [HDN.out _ HPUT.out.symm, backF_1 hm0 hi hkk]
            rw [F.set_set] at r6
            exact r6
          · rcases s6 b hb with h | h
            · rcases HS2.out b h with h | h
              · exact .inl h
              · exact .inr (Nat.le_trans hW1s h)
            · exact .inr (Nat.le_trans HF2.out.size h)
          · exact hF6
end Go.Proofs.Ytkpfendodmfeoaa
