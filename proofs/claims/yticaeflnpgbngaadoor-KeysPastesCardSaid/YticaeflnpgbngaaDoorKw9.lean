import Derived.Test.YticaeflnpgbngaaDoorKw1
import Derived.Test.YticaeflnpgbngaaDoorTt3
namespace Go.Proofs.YticaeflnpgbngaaDoor
set_option linter.unusedVariables false
set_option linter.unusedSimpArgs false
open Go.RowKit Go.Maps
/-! sequence. -/
theorem DcAt.fr {w w' : World} {db : Nat} {d : Dc} {vf vs : Value} (h : DcAt w db d vf vs) {S : Nat → Prop} (hf : Fr S w w') (hn : ∀ b ∈ db :: (rbK vf ++ rbK vs), ¬ S b) : DcAt w' db d vf vs :=
  h.move fun b hb => hf.block b (h.lt b hb) (hn b hb)
theorem DcAt.set {w : World} {db : Nat} {d d' : Dc} {vf vs : Value} (h : DcAt w db d vf vs) (k : Nat) (u : Value) (hc : (#[n64 d.ph, vf, vs, n64 d.mn, str d.tl, n64 d.ag] : Array Value).setIfInBounds k u = #[n64 d'.ph, vf, vs, n64 d'.mn, str d'.tl, n64 d'.ag]) (h1 : d'.f = d.f) (h2 : d'.sq = d.sq) : DcAt (w.setCell ⟨db, k, none⟩ u) db d' vf vs := by
  have hb := heap_setCell_same w db k _ _ u h.box
  rw [hc] at hb
  have ho : ∀ g, g ≠ db → (w.setCell ⟨db, k, none⟩ u).heap[g]? = w.heap[g]? := fun g hg => Below.heap_setCell _ _ _ _ hg
  exact ⟨hb, by rw [h1]; exact h.rf.at_ fun g hg => ho g (h.nf hg), by rw [h2]; exact h.rs.at_ fun g hg => ho g (h.ns hg), h.ne⟩
theorem Di.of {w : World} {db : Nat} {d : Dc} {vf vs : Value} (h : DcAt w db d vf vs) : Di w db d (db :: (rbK vf ++ rbK vs)) := ⟨vf, vs, h, rfl⟩
theorem rdNew1S {w W : World} (u : Value) (e : TypeId) (h : W.heap.size = w.heap.size) : Rd (W.alloc (.cells #[u] e)) (some ⟨w.heap.size, 0, none⟩) [u] := by
  have := Rd.new1 W u e
  rwa [h] at this
theorem DcAt.mv {w w' : World} {db : Nat} {d : Dc} {vf vs : Value} (h : DcAt w' db d vf vs) {fp : List Nat} (hf : Fr (fun k => k ∈ fp) w w') (hm : ∀ b ∈ db :: (rbK vf ++ rbK vs), b ∈ fp ∨ w.heap.size ≤ b) : Mv w db fp d w' := ⟨_, Di.of h, hf, hm⟩
theorem DcAt.app {W w1 : World} {db : Nat} {d d' : Dc} {vf vs v' : Value} {sq' : Bs} (h : DcAt W db d vf vs) (hr : Row w1 0 5 1 v' sq'.length (sq'.map byt)) (hg : W.grownBy w1 vs.ownBlock) (hb : v'.ownBlock = vs.ownBlock ∨ v'.ownBlock = some W.heap.size)
    (hd : d' = { d with sq := sq' }) : DcAt (w1.setCell ⟨db, 2, none⟩ v') db d' vf v' := by
  subst hd
  have hlt := (Array.getElem?_eq_some_iff.1 h.box).1
  have hbx : w1.heap[db]? = some (.cells #[n64 d.ph, vf, vs, n64 d.mn, str d.tl, n64 d.ag] 29 (0, 0)) := (hg.block db hlt fun e => h.ns e.symm rfl).trans h.box
  have h0 := heap_setCell_same w1 db 2 _ _ v' hbx
  have hv' : ∀ g, v'.ownBlock = some g → g ≠ db := fun g e1 e2 => by
    rcases hb with e | e
    · exact h.ns (e ▸ e1) e2
    · rw [e] at e1; injection e1 with e1; omega
  refine ⟨h0, ?_, ?_, fun g e1 e2 => ?_⟩
  · refine h.rf.at_ fun g e => (Below.heap_setCell _ _ _ _ (h.nf e)).trans (hg.block g (h.rf.lt g e).2 fun e2 => h.ne g e e2.symm)
  · exact hr.at_ fun g e => Below.heap_setCell _ _ _ _ (hv' g e)
  · rcases hb with e | e
    · exact h.ne g e1 (e ▸ e2)
    · rw [e] at e2; injection e2 with e2
      exact absurd (h.rf.lt g e1).2 (by omega)
theorem DcAt.appMv {w W w1 : World} {db : Nat} {d d' : Dc} {vf vs v' : Value} {sq' : Bs} (h : DcAt W db d vf vs) (hF : Fr (fun k => k = db) w W) (hr : Row w1 0 5 1 v' sq'.length (sq'.map byt)) (hg : W.grownBy w1 vs.ownBlock) (hb : v'.ownBlock = vs.ownBlock ∨ v'.ownBlock = some W.heap.size)
    (hd : d' = { d with sq := sq' }) : Mv w db (db :: (rbK vf ++ rbK vs)) d' (w1.setCell ⟨db, 2, none⟩ v') := by
  refine (h.app hr hg hb hd).mv ?_ fun b hm => ?_
  · refine ((hF.mono (S' := fun k => k ∈ db :: (rbK vf ++ rbK vs)) fun i _ e => by rw [e]; exact List.mem_cons_self ..).trans (Fr.of_grown hg) fun i _ e => ?_).trans (Fr.setCell _ _ _) fun i _ e => ?_
    · exact List.mem_cons_of_mem _ (List.mem_append.2 (.inr (rbK_mem e)))
    · rw [e]; exact List.mem_cons_self ..
  · rcases List.mem_cons.1 hm with e | e
    · rw [e]; exact .inl (List.mem_cons_self ..)
    · rcases List.mem_append.1 e with e | e
      · exact .inl (List.mem_cons_of_mem _ (List.mem_append.2 (.inl e)))
      · have e2 := rbK_of e
        rcases hb with e3 | e3
        · exact .inl (List.mem_cons_of_mem _ (List.mem_append.2 (.inr (rbK_mem (e3 ▸ e2)))))
        · rw [e3] at e2; injection e2 with e2
          exact .inr (by have := hF.size; omega)
set_option maxRecDepth 100000 in
set_option maxHeartbeats 1600000 in
theorem kSeq_calls {w : World} {db : Nat} {d : Dc} {fp : List Nat} (h : Di w db d fp) (x : UInt8) (hl : d.f.length ≤ 1000) (hs : d.sq.length ≤ 100000) (hn : d.mn ≤ 100000) : Calls Tryd.prog 33 #[dptr db, byt x] w (TellsK w db fp (seqD d x)) := by
  by_cases hm : mid x
  · have HB := Lib.hid (show seqD d x = ([], midD d x) by unfold seqD; rw [if_pos hm])
    rw [HB.out]
    obtain ⟨vf, vs, h1, rfl⟩ := h
    obtain ⟨c0, c1, c2, c3, c4, c5⟩ := dc_cells h1.box
    have f2 := frozen_of_row w db 2 _ _ h1.box
    have f3 := frozen_of_row w db 3 _ _ h1.box
    obtain ⟨g1, g2⟩ : 32 ≤ x.toNat ∧ x.toNat < 64 := hm
    have H1 := Lib.hid h1
    obtain ⟨m, hm0⟩ : ∃ m, m = d.mn := ⟨_, rfl⟩
    rw [← hm0] at c3 hn
    clear HB
    by_cases h16 : m + 1 ≤ 16
    · have i16 : (m : Int) + 1 ≤ 16 := by omega
      clear h1
      have HS := Lib.hid ((H1.out.set (d' := { d with mn := m + 1 }) 3 (.int .i64 ((m : Int) + 1)) rfl rfl rfl).move (w' := (w.setCell ⟨db, 3, none⟩ (.int .i64 ((m : Int) + 1))).alloc (.cells #[byt x] 5)) fun b hb => Below.heap_alloc _ _ _ ((H1.out.set (d' := { d with mn := m + 1 }) 3 (.int .i64 ((m : Int) + 1)) rfl rfl rfl).lt b hb))
      have HD : Hid (midD d x = { d with mn := m + 1, sq := d.sq ++ [x] }) := Lib.hid (by unfold midD; rw [← hm0, if_pos h16])
      rw [HD.out]
      clear hm0
      go_enter Tryd.func33, Tryd.ntmps33
      go_wp2_with (at_builtin; go_loud (refine wpList_append_row _ rfl _ _ 25 rfl 0 5 1 1 _ Tryd.underlying25 Tryd.info_u8 rfl (by decide) vs d.sq.length (d.sq.map byt) rfl HS.out.rs _ 1 1 [byt x] rfl rfl (rdNew1S _ _ (by simp)) (by simp [Value.oneCell']) (by omega) (by simp only [maxLen]; omega) (Nat.zero_le _) ?_; intro A1 c9 w1 hrow1 hg1 hb1; have hbx := (hg1.block db (Array.getElem?_eq_some_iff.1 HS.out.box).1 fun e => HS.out.ns e.symm rfl).trans HS.out.box; have hff1 := frozen_of_row w1 db 2 _ _ hbx; obtain ⟨_, _, hc12, _⟩ := dc_cells hbx))
      go_ret
      exact nil_tells (HS.out.appMv ((Fr.setCell w ⟨db, 3, none⟩ _).trans (Fr.alloc (S := fun _ => False) _ _) fun _ _ e => e.elim) (by simpa using hrow1) hg1 hb1 rfl)
    · have i16 : ¬ (m : Int) + 1 ≤ 16 := by omega
      clear h1
      have HS := Lib.hid (H1.out.set (d' := { d with mn := m + 1 }) 3 (.int .i64 ((m : Int) + 1)) rfl rfl rfl)
      have HD : Hid (midD d x = { d with mn := m + 1 }) := Lib.hid (by unfold midD; rw [← hm0, if_neg h16])
      rw [HD.out]
      clear hm0
      go_enter Tryd.func33, Tryd.ntmps33
      go_wp2
      go_ret
      exact nil_tells (HS.out.mv ((Fr.setCell w ⟨db, 3, none⟩ _).mono fun i _ e => by rw [e]; exact List.mem_cons_self ..) fun b hb => .inl hb)
  have qf := final_calls x w
  have hm' : ¬ 32 ≤ x.toNat ∨ (32 ≤ x.toNat ∧ ¬ x.toNat < 64) := by unfold mid at hm; omega
  by_cases hf : ¬ fin x
  · have HB := Lib.hid (show seqD d x = anewD d 0 x by unfold seqD; rw [if_neg hm, if_pos hf])
    rw [HB.out]
    have q := kAnew_calls h 0 x hl
    rw [decide_eq_false hf] at qf
    have Q := Lib.hid q
    have QF := Lib.hid qf
    clear q HB hf h qf hm
    rcases hm' with g1 | ⟨g1, g2⟩
    · go_enter Tryd.func33, Tryd.ntmps33
      go_wp2_with (first
        | (refine QF.out.mono ?_; rintro e w0 ⟨rfl, rfl⟩)
        | (refine Q.out.mono ?_; rintro e w1 ⟨v, rfl, hv⟩))
      go_ret
      exact ⟨v, rfl, hv⟩
    · go_enter Tryd.func33, Tryd.ntmps33
      go_wp2_with (first
        | (refine QF.out.mono ?_; rintro e w0 ⟨rfl, rfl⟩)
        | (refine Q.out.mono ?_; rintro e w1 ⟨v, rfl, hv⟩))
      go_ret
      exact ⟨v, rfl, hv⟩
  have hf : fin x := Classical.not_not.1 hf
  rw [decide_eq_true hf] at qf
  have QF := Lib.hid qf
  have hx64 : 32 ≤ x.toNat ∧ ¬ x.toNat < 64 := by have := hf.1; omega
  obtain ⟨g1, g2⟩ := hx64
  clear hm' qf
  have hsq : ∃ (sx : ByteArray) (A : Option Addr) (c : Nat), sx = ⟨d.sq.toArray⟩ ∧ w.cell? ⟨db, 2, none⟩ = some (.slice A d.sq.length c) ∧ w.cell? ⟨db, 3, none⟩ = some (n64 d.mn) ∧ RdB w A d.sq := by
    obtain ⟨vf, vs, h1, rfl⟩ := h
    obtain ⟨A, c, rfl, _, _, hrd, _⟩ := h1.rs.rd
    obtain ⟨c0, c1, c2, c3, c4, c5⟩ := dc_cells h1.box
    exact ⟨_, A, c, rfl, c2, c3, hrd⟩
  obtain ⟨sx, A, c, hsx, c2, c3, hrd⟩ := hsq
  have hstr := run_str (P := Tryd.prog) w 25 5 9 Tryd.underlying25 Tryd.underlying5 Tryd.underlying9 A d.sq d.sq.length c rfl hrd
  rw [← hsx] at hstr
  have hstrN : ∀ nq, (convert 25 9 (.slice A d.sq.length c)).run Tryd.prog (w.drewN nq) = .ok (.string sx) (w.drewN nq) := fun nq => by
    rw [hsx]; exact run_str (P := Tryd.prog) (w.drewN nq) 25 5 9 Tryd.underlying25 Tryd.underlying5 Tryd.underlying9 A d.sq d.sq.length c rfl hrd
  have htl : sx.toList = d.sq := by rw [hsx, ByteArray.toList_eq]
  by_cases hb : x = 126 ∧ d.sq = [50, 48, 48]
  · have HB := Lib.hid (show seqD d x = ([], d.to 4) by unfold seqD; rw [if_neg hm, if_neg (by simpa using hf), if_pos hb])
    rw [HB.out]
    obtain ⟨h1, h2⟩ := hb
    subst h1
    have i3 : sx.toList = [50, 48, 48] := htl.trans h2
    clear HB hm hf h2 htl hsx hrd
    go_enter Tryd.func33, Tryd.ntmps33
    go_wp2_with (first
      | (refine QF.out.mono ?_; rintro e w0 ⟨rfl, rfl⟩)
      | (refine (toM_calls (Mv.refl h) 4).mono ?_; rintro e w1 ⟨rfl, hm1, _⟩))
    go_ret
    exact nil_tells hm1
  have HB := Lib.hid (show seqD d x = if 16 < d.mn then ([kb 0], d.to 0) else ([kb (toldK d.sq x)], d.to 0) by unfold seqD; rw [if_neg hm, if_neg (by simpa using hf), if_neg hb])
  rw [HB.out]
  have TOLD := fun w1 => told_calls d.sq x (by omega) w1
  rw [show str d.sq = .string sx by rw [hsx]] at TOLD
  obtain ⟨m, hm0⟩ : ∃ m, m = d.mn := ⟨_, rfl⟩
  rw [← hm0] at c3 hn ⊢
  by_cases h126 : x = 126
  · have i3 : ¬ sx.toList = [50, 48, 48] := by rw [htl]; exact fun e => hb ⟨h126, e⟩
    have i4 : (sx.toList == [50, 48, 48]) = false := by rw [beq_eq_false_iff_ne]; exact i3
    subst h126
    clear hm hf htl hsx hrd hb hm0 HB
    by_cases h16 : 16 < m
    · rw [if_pos h16]
      have i16 : (16 : Int) < (m : Int) := by omega
      go_enter Tryd.func33, Tryd.ntmps33
      go_wp2_with (refine QF.out.mono ?_; rintro e w0 ⟨rfl, rfl⟩)
      go_quiet (fail)
      rename_i nq
      have hq : Mv w db fp d (w.drewN nq) := (Mv.refl h).below ⟨rfl, rfl, rfl, Nat.le_refl _, fun _ _ => rfl⟩
      go_wp2_with (first
        | (refine (toM_calls hq 0).mono ?_; rintro e w1 ⟨rfl, hm1, _⟩)
        | (refine (keyone_calls _ w1).mono ?_; rintro e w3 ⟨rfl, rfl⟩))
      go_ret
      exact ⟨_, rfl, one_row w1 w.heap.size 0 hm1.size, hm1.alloc _⟩
    · rw [if_neg h16]
      have i16 : ¬ (16 : Int) < (m : Int) := by omega
      go_enter Tryd.func33, Tryd.ntmps33
      go_wp2_with (refine QF.out.mono ?_; rintro e w0 ⟨rfl, rfl⟩)
      go_quiet (fail)
      rename_i nq
      have hq : Mv w db fp d (w.drewN nq) := (Mv.refl h).below ⟨rfl, rfl, rfl, Nat.le_refl _, fun _ _ => rfl⟩
      go_wp2_with (first
        | (refine (toM_calls hq 0).mono ?_; rintro e w1 ⟨rfl, hm1, _⟩)
        | (go_at_call 51; refine (TOLD w1).mono ?_; rintro e w2 ⟨rfl, hb2⟩; have hm2 := hm1.below hb2)
        | (refine (keyone_calls _ w2).mono ?_; rintro e w3 ⟨rfl, rfl⟩))
      go_ret
      exact ⟨_, rfl, one_row w2 w.heap.size _ hm2.size, hm2.alloc _⟩
  · have i126 : ((x.toNat : Int) == 126) = false := by rw [beq_eq_false_iff_ne]; intro e; exact h126 (UInt8.toNat_inj.1 (by show x.toNat = 126; omega))
    clear hm hf htl hsx hrd hb hm0 HB
    by_cases h16 : 16 < m
    · rw [if_pos h16]
      have i16 : (16 : Int) < (m : Int) := by omega
      go_enter Tryd.func33, Tryd.ntmps33
      go_wp2_with (refine QF.out.mono ?_; rintro e w0 ⟨rfl, rfl⟩)
      go_quiet (fail)
      rename_i nq
      have hq : Mv w db fp d (w.drewN nq) := (Mv.refl h).below ⟨rfl, rfl, rfl, Nat.le_refl _, fun _ _ => rfl⟩
      go_wp2_with (first
        | (refine (toM_calls hq 0).mono ?_; rintro e w1 ⟨rfl, hm1, _⟩)
        | (refine (keyone_calls _ w1).mono ?_; rintro e w3 ⟨rfl, rfl⟩))
      go_ret
      exact ⟨_, rfl, one_row w1 w.heap.size 0 hm1.size, hm1.alloc _⟩
    · rw [if_neg h16]
      have i16 : ¬ (16 : Int) < (m : Int) := by omega
      go_enter Tryd.func33, Tryd.ntmps33
      go_wp2_with (refine QF.out.mono ?_; rintro e w0 ⟨rfl, rfl⟩)
      go_quiet (fail)
      rename_i nq
      have hq : Mv w db fp d (w.drewN nq) := (Mv.refl h).below ⟨rfl, rfl, rfl, Nat.le_refl _, fun _ _ => rfl⟩
      go_wp2_with (first
        | (refine (toM_calls hq 0).mono ?_; rintro e w1 ⟨rfl, hm1, _⟩)
        | (go_at_call 51; refine (TOLD w1).mono ?_; rintro e w2 ⟨rfl, hb2⟩; have hm2 := hm1.below hb2)
        | (refine (keyone_calls _ w2).mono ?_; rintro e w3 ⟨rfl, rfl⟩))
      go_ret
      exact ⟨_, rfl, one_row w2 w.heap.size _ hm2.size, hm2.alloc _⟩
end Go.Proofs.YticaeflnpgbngaaDoor
namespace Go.Proofs.YticaeflnpgbngaaDoor
set_option linter.unusedVariables false
set_option linter.unusedSimpArgs false
open Go.RowKit Go.Maps
/-! pasted. -/
theorem setCell_mv {w : World} {db k : Nat} {u : Value} {fp : List Nat} (h : db ∈ fp) : Fr (fun i => i ∈ fp) w (w.setCell ⟨db, k, none⟩ u) := (Fr.setCell w ⟨db, k, none⟩ u).mono fun i _ e => by rw [e]; exact h
theorem one_rowT (w : World) (B : Nat) (q : KeyT) (hB : B ≤ w.heap.size) : RowK (w.alloc (.cells #[n64 q.k, str q.t] 46)) B (.slice (some ⟨w.heap.size, 0, none⟩) 1 1) [q] := by
  have := Row.new w #[n64 q.k, str q.t] B 46 2 1 hB (by decide) rfl
  simpa [RowK, flatK, keyCells] using this
theorem Mv.open {w w' : World} {db : Nat} {d : Dc} {fp : List Nat} (h : Mv w db fp d w') : ∃ vf vs, DcAt w' db d vf vs ∧ Fr (fun k => k ∈ fp) w w' ∧ ∀ b ∈ db :: (rbK vf ++ rbK vs), b ∈ fp ∨ w.heap.size ≤ b := by
  obtain ⟨fp', ⟨vf, vs, hd, rfl⟩, hf, hm⟩ := h
  exact ⟨vf, vs, hd, hf, hm⟩
theorem mv_step {w w1 w2 : World} {db : Nat} {d2 : Dc} {vf vs vf2 vs2 : Value} {fp : List Nat} (hf : Fr (fun k => k ∈ fp) w w1) (hm : ∀ b ∈ db :: (rbK vf ++ rbK vs), b ∈ fp ∨ w.heap.size ≤ b)
    (h2 : DcAt w2 db d2 vf2 vs2) (hf2 : Fr (fun k => k ∈ db :: (rbK vf ++ rbK vs)) w1 w2) (hm2 : ∀ b ∈ db :: (rbK vf2 ++ rbK vs2), b ∈ db :: (rbK vf ++ rbK vs) ∨ w1.heap.size ≤ b) : Mv w db fp d2 w2 := by
  refine ⟨_, Di.of h2, hf.trans hf2 (fun i hi e => (hm i e).resolve_right (by omega)), fun b hb => ?_⟩
  rcases hm2 b hb with e | e
  · exact hm b e
  · exact .inr (Nat.le_trans hf.size e)
theorem run_upto8 {P : Program} (t e : TypeId) (sz : Nat) (ht : P.underlying t = some (.slice e)) (hsz : ∀ w, (sizeOf e).run P w = .ok sz w) (A : Option Addr) (n c k : Nat) (hk : k ≤ n) (hn : n ≤ c) (w : World) :
    (Instr.slice t (.slice A n c) none (some (.int .i64 (k : Int))) none).run P w = .ok (.slice A k c) w := by
  have h1 : (0 : Int) ≤ (k : Int) ∧ (k : Int) ≤ (c : Int) := by omega
  have h2 : (if c = 0 then A else A.map (fun x => x.add (0 * sz))) = A := by
    split
    · rfl
    · cases A with
      | none => rfl
      | some a => simp [Addr.add]
  simp [Instr.slice, run_underlying ht, Instr.sliceBounds, Instr.sliceBound, hsz, h1, asIntOf]
  rw [if_pos (show k ≤ c by omega)]
  rw [Nat.zero_mul] at h2
  rw [h2]
theorem Tryd.size_u8 : ∀ w, (sizeOf 5).run Tryd.prog w = .ok 1 w := fun w => by kernel_rfl
set_option maxRecDepth 100000 in
set_option maxHeartbeats 4000000 in
theorem kPasted_calls {w : World} {db : Nat} {d : Dc} {fp : List Nat} (h : Di w db d fp) (x : UInt8) (hs : d.sq.length ≤ 100000) (hn : d.mn ≤ 100000) (ht : d.tl.length ≤ 1000) (ht2 : d.tl.length ≤ d.mn) (hsn : Hid (d.sq.length = min d.mn 1200))
    (hU : ∀ w', Fr (fun k => k ∈ fp) w w' → U8 w') : Calls Tryd.prog 35 #[dptr db, byt x] w (TellsK w db fp (pastedD d x)) := by
  obtain ⟨vf, vs, h1, rfl⟩ := h
  obtain ⟨c0, c1, c2, c3, c4, c5⟩ := dc_cells h1.box
  have f3 := frozen_of_row w db 3 _ _ h1.box
  have H1 := Lib.hid h1
  obtain ⟨m, hm0⟩ : ∃ m, m = d.mn := ⟨_, rfl⟩
  rw [← hm0] at c3 hn
  have HM0 := Lib.hid hm0
  have hfo : Tryd.prog.follows Departure.mixedOrders = true := by kernel_rfl
  obtain ⟨D1, hD1⟩ : ∃ D1 : Dc, D1 = { d with mn := m + 1, sq := if m + 1 ≤ 1200 then d.sq ++ [x] else d.sq } := ⟨_, rfl⟩
  have HD1 := Lib.hid hD1
  obtain ⟨o, ho⟩ : ∃ o, o = pastedD d x := ⟨_, rfl⟩
  have HO := Lib.hid ho
  rw [← ho]
  clear hm0 hD1 h1 ho
  go_enter Tryd.func35, Tryd.ntmps35
  go_upto_if 17 with fail
  go_cut [] (fun wx => Mv w db (db :: (rbK vf ++ rbK vs)) D1 wx)
  case first =>
    by_cases h16 : m + 1 ≤ 1200
    · have i16 : (m : Int) + 1 ≤ 1200 := by omega
      have HS := Lib.hid ((H1.out.set (d' := { d with mn := m + 1 }) 3 (.int .i64 ((m : Int) + 1)) rfl rfl rfl).move (w' := (w.setCell ⟨db, 3, none⟩ (.int .i64 ((m : Int) + 1))).alloc (.cells #[byt x] 5)) fun b hb => Below.heap_alloc _ _ _ ((H1.out.set (d' := { d with mn := m + 1 }) 3 (.int .i64 ((m : Int) + 1)) rfl rfl rfl).lt b hb))
      go_wp2_with (at_builtin; refine wpList_append_row _ rfl _ _ 25 rfl 0 5 1 1 _ Tryd.underlying25 Tryd.info_u8 rfl (by decide) vs d.sq.length (d.sq.map byt) rfl HS.out.rs _ 1 1 [byt x] rfl rfl (rdNew1S _ _ (by simp)) (by simp [Value.oneCell']) (by omega) (by simp only [maxLen]; omega) (Nat.zero_le _) ?_; intro A1 c9 w1 hrow1 hg1 hb1; have hbx := (hg1.block db (Array.getElem?_eq_some_iff.1 HS.out.box).1 fun e => HS.out.ns e.symm rfl).trans HS.out.box; have hff1 := frozen_of_row w1 db 2 _ _ hbx; obtain ⟨_, _, hc12, _⟩ := dc_cells hbx)
      go_meet
      case rel =>
        exact HS.out.appMv (sq' := d.sq ++ [x]) ((Fr.setCell w ⟨db, 3, none⟩ _).trans (Fr.alloc (S := fun _ => False) _ _) fun _ _ e => e.elim) (by simpa using hrow1) hg1 hb1 (by rw [HD1.out, if_pos h16])
    · have i16 : ¬ (m : Int) + 1 ≤ 1200 := by omega
      have HS := Lib.hid (H1.out.set (d' := D1) 3 (.int .i64 ((m : Int) + 1)) (by rw [HD1.out]; rfl) (by rw [HD1.out]) (by rw [HD1.out, if_neg h16]))
      go_wp2
      go_meet
      case rel =>
        exact HS.out.mv (setCell_mv (List.mem_cons_self ..)) fun b hb => .inl hb
  case rest =>
    obtain ⟨vf1, vs1, hd1, hf1, hm1⟩ := Mv.open hcut
    obtain ⟨wz, hwz⟩ : ∃ wz, wz = wc := ⟨_, rfl⟩
    rw [← hwz] at hcut hd1 hf1 ⊢
    clear hwz c0 c1 c2 c3 c4 c5 f3
    obtain ⟨D2, hD2⟩ : ∃ D2 : Dc, D2 = { D1 with tl := d.tl ++ [x] } := ⟨_, rfl⟩
    have HD2 := Lib.hid hD2
    have htl1 : D1.tl = d.tl := by rw [HD1.out]
    obtain ⟨sT, hsT⟩ : ∃ s : ByteArray, s = ⟨d.tl.toArray⟩ := ⟨_, rfl⟩
    obtain ⟨sX, hsX⟩ : ∃ s : ByteArray, s = ⟨[x].toArray⟩ := ⟨_, rfl⟩
    have HD1B := Lib.hid hd1
    obtain ⟨c0, c1, c2, c3, c4, c5⟩ := dc_cells hd1.box
    rw [htl1, lit_of hsT] at c4
    have f4 := frozen_of_row wz db 4 _ _ hd1.box
    clear hD2 hd1
    go_upto_region 4 with fail
    go_cut [] (fun wx => Mv w db (db :: (rbK vf ++ rbK vs)) D2 wx)
    case first =>
      have hcd : wz.drew.cell? ⟨db, 4, none⟩ = some (.string sT) := c4
      have hfd : wz.drew.frozen? ⟨db, 4, none⟩ = false := f4
      have hadd : ∀ W, (Op.stringOp .add sT sX).run Tryd.prog W = .ok (.string ⟨(d.tl ++ [x]).toArray⟩) W := add_str hsT hsX (by simp; omega)
      have hconv : (convert 25 9 (.slice (some ⟨wz.heap.size, 0, none⟩) 1 1)).run Tryd.prog (wz.alloc (.cells #[byt x] 5)).drew = .ok (.string sX) (wz.alloc (.cells #[byt x] 5)).drew := by
        rw [hsX]
        exact run_str (P := Tryd.prog) _ 25 5 9 Tryd.underlying25 Tryd.underlying5 Tryd.underlying9 _ [x] 1 1 rfl (Rd.new1 wz.drew (byt x) 5)
      have hal : ∀ k : Nat, (wz.alloc (.cells #[byt x] 5)).drew.heap[k]? = (wz.alloc (.cells #[byt x] 5)).heap[k]? := fun _ => rfl
      have hbx2 : (wz.alloc (.cells #[byt x] 5)).drew.heap[db]? = some (.cells #[n64 D1.ph, vf1, vs1, n64 D1.mn, str D1.tl, n64 D1.ag] 29 (0, 0)) := (hal db).trans ((Below.heap_alloc _ _ _ (lt_of_heap HD1B.out.box)).trans HD1B.out.box)
      obtain ⟨_, _, _, _, hcd2, _⟩ := dc_cells hbx2
      rw [htl1, lit_of hsT] at hcd2
      have hfd2 := frozen_of_row _ db 4 _ _ hbx2
      have HBX2 := Lib.hid hbx2
      clear hbx2 hal hsT hsX htl1
      go_region
      go_wp2_with fail
      go_meet
      case rel =>
        have hd2 := (HD1B.out.move (w' := wz.alloc (.cells #[byt x] 5)) fun b hb => Below.heap_alloc _ _ _ (HD1B.out.lt b hb)).set (d' := D2) 4 (.string ⟨(d.tl ++ [x]).toArray⟩) (by rw [HD2.out]; rfl) (by rw [HD2.out]) (by rw [HD2.out])
        have hf2 : Fr (fun k => k ∈ db :: (rbK vf1 ++ rbK vs1)) wz ((wz.alloc (.cells #[byt x] 5)).setCell ⟨db, 4, none⟩ (.string ⟨(d.tl ++ [x]).toArray⟩)).drew := ((Fr.alloc _ _).trans (setCell_mv (List.mem_cons_self ..)) (fun _ _ e => e)).drew
        exact mv_step hf1 hm1 (hd2.move (fun _ _ => rfl)) hf2 fun b hb => .inl hb
    case rest =>
      obtain ⟨vf2, vs2, hd2, hf2, hm2⟩ := Mv.open hcut
      obtain ⟨wy, hwy⟩ : ∃ wy, wy = wc := ⟨_, rfl⟩
      rw [← hwy] at hcut hd2 hf2 ⊢
      clear hwy c0 c1 c2 c3 c4 c5 f4 hf1 hm1 HD1B
      obtain ⟨Z, hZ⟩ : ∃ Z : Bs, Z = d.tl ++ [x] := ⟨_, rfl⟩
      obtain ⟨D3, hD3⟩ : ∃ D3 : Dc, D3 = { D2 with tl := Z.drop (Z.length - 6) } := ⟨_, rfl⟩
      have hZl : Z.length = d.tl.length + 1 := by rw [hZ]; simp
      have htl2 : D2.tl = Z := by rw [HD2.out, hZ]
      obtain ⟨sZ, hsZ⟩ : ∃ s : ByteArray, s = ⟨Z.toArray⟩ := ⟨_, rfl⟩
      obtain ⟨sY, hsY⟩ : ∃ s : ByteArray, s = ⟨(Z.drop (Z.length - 6)).toArray⟩ := ⟨_, rfl⟩
      have hsz : sZ.size = Z.length := by rw [hsZ]; simp [ByteArray.size]
      have HD2B := Lib.hid hd2
      obtain ⟨c0, c1, c2, c3, c4, c5⟩ := dc_cells hd2.box
      rw [htl2, lit_of hsZ] at c4
      have f4 := frozen_of_row wy db 4 _ _ hd2.box
      obtain ⟨n, hn0⟩ : ∃ n, n = Z.length := ⟨_, rfl⟩
      obtain ⟨k, hk0⟩ : ∃ k, k = Z.length - 6 := ⟨_, rfl⟩
      have HK := Lib.hid hk0
      rw [← hn0] at hsz
      rw [← hk0] at hsY hD3
      have hmx : ∀ (ts : Array TypeId) (t : TypeId) (W : World), (Builtin.max_ ts t #[.int .i64 ((n : Int) - 6), .int .i64 0]).run Tryd.prog W = .ok (.int .i64 (k : Int)) W := fun ts t W => by
        rw [run_max_int2]
        congr 2
        split <;> omega
      have hsl : ∀ W : World, (Instr.slice 9 (.string sZ) (some (.int .i64 (k : Int))) none none).run Tryd.prog W = .ok (.string sY) W := fun W => by
        rw [run_slice_string_from_if (P := Tryd.prog) W _ _ _ _ Tryd.underlying9, if_pos ⟨by omega, by rw [hsz]; omega⟩, hsY, hsZ, extract_eq, str_of, List.take_length]
        rfl
      have HD3 := Lib.hid hD3
      have HZ := Lib.hid hZ
      have HSY := Lib.hid hsY
      clear hD3 hZ hd2 htl2 hsZ hsY
      have hn1 : n ≤ 1001 := by omega
      clear hn0 hk0 hZl
      go_upto_region 5 with fail
      go_cut [] (fun wx => Mv w db (db :: (rbK vf ++ rbK vs)) D3 wx)
      case first =>
        have hcd : wy.drew.cell? ⟨db, 4, none⟩ = some (.string sZ) := c4
        have hfd : wy.drew.frozen? ⟨db, 4, none⟩ = false := f4
        go_region
        go_wp2_with fail
        go_meet
        case rel =>
          have hd3 := HD2B.out.set (d' := D3) 4 (.string sY) (by rw [HD3.out, HSY.out]; rfl) (by rw [HD3.out]) (by rw [HD3.out])
          exact mv_step hf2 hm2 (hd3.move (fun _ _ => rfl)) (setCell_mv (List.mem_cons_self ..)).drew fun b hb => .inl hb
      case rest =>
        obtain ⟨vf3, vs3, hd3, hf3, hm3⟩ := Mv.open hcut
        obtain ⟨wx, hwx⟩ : ∃ wx, wx = wc := ⟨_, rfl⟩
        rw [← hwx] at hcut hd3 hf3 ⊢
        clear hwx c0 c1 c2 c3 c4 c5 f4 hf2 hm2 HD2B hmx hsl
        have hDp : D3 = pasteD d x := by rw [HD3.out, HD2.out, HD1.out, HK.out, HZ.out, HM0.out]; rfl
        have htl3 : D3.tl = Z.drop k := by rw [HD3.out]
        have htlY : sY.toList = D3.tl := by rw [HSY.out, htl3, ByteArray.toList_eq]
        obtain ⟨c0, c1, c2, c3, c4, c5⟩ := dc_cells hd3.box
        rw [htl3, lit_of HSY.out] at c4
        have hpd : o = if D3.tl = endB then ([⟨26, pl (D3.sq.take (min (m + 1 - 6) 1200))⟩], d.to 0) else ([], D3) := by rw [HO.out]; unfold pastedD; rw [hDp, HM0.out]
        have HPD := Lib.hid hpd
        by_cases he : D3.tl = endB
        · have i3 : sY.toList = [27, 91, 50, 48, 49, 126] := by rw [htlY]; exact he
          have hm6 : 6 ≤ m + 1 := by
            have := congrArg List.length he
            rw [htl3, List.length_drop, show endB.length = 6 from rfl, HZ.out, List.length_append, List.length_singleton] at this
            have := HM0.out
            omega
          have hsq3 : D3.sq.length = min (m + 1) 1200 := by
            have h1 := hsn.out
            rw [HD3.out, HD2.out, HD1.out]
            rw [← HM0.out] at h1
            dsimp only
            split
            · rw [List.length_append, List.length_singleton]; omega
            · omega
          obtain ⟨j, hj⟩ : ∃ j, j = min (m + 1 - 6) 1200 := ⟨_, rfl⟩
          have hmn : ∀ (ts : Array TypeId) (t : TypeId) (W : World), (Builtin.min_ ts t #[.int .i64 ((m : Int) + 1 - 6), .int .i64 1200]).run Tryd.prog W = .ok (.int .i64 (j : Int)) W := fun ts t W => by
            rw [run_min_int2]
            congr 2
            split <;> omega
          obtain ⟨A3, cp3, hv3, hnc3, hmx3, hrd3, hab3⟩ := hd3.rs.rd
          have hsl3 := fun W => run_upto8 (P := Tryd.prog) 25 5 1 Tryd.underlying25 Tryd.size_u8 A3 D3.sq.length cp3 j (by omega) hnc3 W
          rw [hv3] at c2
          have hD3m : D3.mn = m + 1 := by rw [HD3.out, HD2.out, HD1.out]
          rw [hD3m] at c3
          have c3' : wx.cell? ⟨db, 3, none⟩ = some (.int .i64 ((m : Int) + 1)) := c3
          have HD3B := Lib.hid hd3
          have HV3 := Lib.hid hv3
          have HRD3 := Lib.hid hrd3
          have HE := Lib.hid he
          have HJ := Lib.hid hj
          have k3 : wx.drew.cell? ⟨db, 3, none⟩ = some (.int .i64 ((m : Int) + 1)) := c3
          have k2 : wx.drew.cell? ⟨db, 2, none⟩ = some (.slice A3 D3.sq.length cp3) := c2
          have HSQ3 := Lib.hid hsq3
          clear htlY htl3 hDp hpd he hcut hd3 hv3 hj c3 hD3m hrd3 hab3 hsq3
          go_upto_region 8 with fail
          go_region
          go_wp2_with fail
          refine (to_calls (Di.of (HD3B.out.move (w' := wx.drew) (fun _ _ => rfl))) 0).mono ?_
          rintro e w4 ⟨fp4, rfl, hd4, hf4, hm4⟩
          have hrd4 : RdB w4 A3 (D3.sq.take j) := by
            have h1 := HRD3.out.take j
            rw [← List.map_take] at h1
            have h2 : Rd wx.drew A3 ((D3.sq.take j).map byt) := h1
            refine h2.fr hf4 fun a ha _ e => HD3B.out.ns (g := a.block) ?_ e
            rw [HV3.out, ownB, ha]; rfl
          have hto : D3.to 0 = d.to 0 := by rw [HD3.out, HD2.out, HD1.out]; rfl
          rw [hto] at hd4
          have hM4 : Mv w db (db :: (rbK vf ++ rbK vs)) (d.to 0) w4 := by
            obtain ⟨vf4, vs4, hd4, rfl⟩ := hd4
            exact mv_step hf3 hm3 hd4 ((Fr.refl (fun k => k ∈ db :: (rbK vf3 ++ rbK vs3)) wx).drew.trans (hf4.mono fun i _ e => by rw [e]; exact List.mem_cons_self ..) (fun _ _ e => e)) fun b hb => .inl (hm4 b hb)
          have hU4 : U8 w4 := hU w4 (by obtain ⟨_, _, hF, _⟩ := hM4; exact hF)
          have hjl : (D3.sq.take j).length = j := by
            have h1 := HSQ3.out
            have h2 := HJ.out
            rw [List.length_take]; omega
          have hjb : j ≤ 1200 := by have h2 := HJ.out; omega
          obtain ⟨sS, hsS⟩ : ∃ s : ByteArray, s = ⟨(D3.sq.take j).toArray⟩ := ⟨_, rfl⟩
          have hstr4 := run_str (P := Tryd.prog) w4 25 5 9 Tryd.underlying25 Tryd.underlying5 Tryd.underlying9 A3 (D3.sq.take j) j cp3 hjl.symm hrd4
          rw [← hsS] at hstr4
          have PL := Lib.hid (Plain_calls (D3.sq.take j) (by rw [hjl]; omega) sS hsS w4 hU4)
          have HM4 := Lib.hid hM4
          clear hsS hjl hU4 hM4 hrd4 hd4 hf4 hm4
          go_wp2_with (refine PL.out.mono ?_; rintro e w5 ⟨rfl, hb5⟩)
          go_ret
          rw [HPD.out, if_pos HE.out, ← HJ.out]
          have hM5 := HM4.out.below hb5
          exact ⟨_, rfl, one_rowT w5 w.heap.size ⟨26, pl (D3.sq.take j)⟩ hM5.size, hM5.alloc _⟩
        · have i3 : ¬ sY.toList = [27, 91, 50, 48, 49, 126] := by rw [htlY]; exact he
          have i4 : (sY.toList == [27, 91, 50, 48, 49, 126]) = false := by rw [beq_eq_false_iff_ne]; exact i3
          have HC := Lib.hid hcut
          have HE := Lib.hid he
          clear htlY htl3 hDp hpd he hcut
          go_wp2
          go_ret
          rw [HPD.out, if_neg HE.out]
          exact nil_tells HC.out
end Go.Proofs.YticaeflnpgbngaaDoor
namespace Go.Proofs.YticaeflnpgbngaaDoor
set_option linter.unusedVariables false
set_option linter.unusedSimpArgs false
open Go.RowKit Go.Maps
/-! Put, Feed, Tick. -/
theorem TellsK.then {w w1 w' : World} {db : Nat} {d : Dc} {fp : List Nat} {o : Out} {e : Ending} (hd : Di w1 db d fp) (hf : Fr (fun k => k ∈ fp) w w1) (h : TellsK w1 db fp o e w') : TellsK w db fp o e w' := by
  obtain ⟨v, he, hr, hm⟩ := h
  exact ⟨v, he, hr.mono hf.size, Mv.then hd hf (fun b hb => .inl hb) hm⟩
theorem Di.mem {w : World} {db : Nat} {d : Dc} {fp : List Nat} (h : Di w db d fp) : db ∈ fp := by obtain ⟨_, _, _, rfl⟩ := h; exact List.mem_cons_self ..
theorem Di.ag {w : World} {db : Nat} {d : Dc} {fp : List Nat} (h : Di w db d fp) (a : Nat) : Di (w.setCell ⟨db, 5, none⟩ (n64 a)) db { d with ag := a } fp := by
  obtain ⟨vf, vs, h1, rfl⟩ := h
  exact ⟨vf, vs, h1.set (d' := { d with ag := a }) 5 (n64 a) rfl rfl rfl, rfl⟩
theorem Di.cells {w : World} {db : Nat} {d : Dc} {fp : List Nat} (h : Di w db d fp) : w.cell? ⟨db, 0, none⟩ = some (n64 d.ph) ∧ w.cell? ⟨db, 5, none⟩ = some (n64 d.ag) ∧ w.frozen? ⟨db, 5, none⟩ = false := by
  obtain ⟨vf, vs, h1, rfl⟩ := h
  obtain ⟨c0, c1, c2, c3, c4, c5⟩ := dc_cells h1.box
  exact ⟨c0, c5, frozen_of_row w db 5 _ _ h1.box⟩
/-- What a decoder's numbers are, by what waits. -/
theorem rel_num {d : Dc} {b : Bs} (h : RelD d b) : d.f.length ≤ 3 ∧ d.sq.length ≤ b.length ∧ d.mn ≤ b.length ∧ (d.ph = 4 → d.tl.length ≤ 6 ∧ d.tl.length ≤ d.mn ∧ d.sq.length = min d.mn 1200) ∧ d.ph ≤ 4 := by
  cases h with
  | gr h g w => exact ⟨part_le w, by rw [g.sq]; simp, by rw [g.mn]; simp, fun e => by omega, by omega⟩
  | es h g f => exact ⟨by rw [f]; simp, by rw [g.sq]; simp, by rw [g.mn]; simp, fun e => by omega, by omega⟩
  | cs h f t p m s n => exact ⟨by rw [f]; simp, by rw [s]; simp; omega, by rw [n]; simp; omega, fun e => by omega, by omega⟩
  | ss h g f => exact ⟨by rw [f]; simp, by rw [g.sq]; simp, by rw [g.mn]; simp, fun e => by omega, by omega⟩
  | pa h f p n s t e => exact ⟨by rw [f]; simp, by rw [s]; simp; omega, by rw [n]; simp, fun _ => ⟨by rw [t]; simp; omega, by rw [t, n]; simp, by rw [s, n]; simp; omega⟩, by omega⟩
set_option maxRecDepth 100000 in
set_option maxHeartbeats 1600000 in
theorem kPut_calls {w : World} {db : Nat} {d : Dc} {fp : List Nat} (h : Di w db d fp) (x : UInt8) {b : Bs} (hr : RelD d b) (hb : b.length ≤ 90000) (hU : ∀ w', Fr (fun k => k ∈ fp) w w' → U8 w') :
    Calls Tryd.prog 17 #[dptr db, byt x] w (TellsK w db fp (putD d x)) := by
  obtain ⟨n1, n2, n3, n4, n5⟩ := rel_num hr
  have hd := h.ag 0
  have hf := setCell_mv (w := w) (k := 5) (u := n64 0) h.mem
  obtain ⟨c0, c5, f5⟩ := h.cells
  have hU1 : ∀ w', Fr (fun k => k ∈ fp) (w.setCell ⟨db, 5, none⟩ (n64 0)) w' → U8 w' := fun w' h1 => hU w' (hf.trans h1 fun _ _ e => e)
  obtain ⟨D, hD⟩ : ∃ D : Dc, D = { d with ag := 0 } := ⟨_, rfl⟩
  have HP := Lib.hid (show putD d x = if d.ph = 1 then behindD D x else if d.ph = 2 then seqD D x else if d.ph = 3 then shortD D x else if d.ph = 4 then pastedD D x else firstD D x by rw [hD]; rfl)
  rw [HP.out]
  rw [← hD] at hd
  have m1 : D.f.length ≤ 1000 := by rw [hD]; show d.f.length ≤ 1000; omega
  have m2 : D.sq.length ≤ 100000 := by rw [hD]; show d.sq.length ≤ 100000; omega
  have m3 : D.mn ≤ 100000 := by rw [hD]; show d.mn ≤ 100000; omega
  obtain ⟨p, hp⟩ : ∃ p, p = d.ph := ⟨_, rfl⟩
  rw [← hp] at c0 n4 n5 ⊢
  have HU := Lib.hid hU1
  have HDI := Lib.hid hd
  have HF := Lib.hid hf
  by_cases p1 : p = 1
  · subst p1
    have Q := Lib.hid (kBehind_calls hd x m1)
    clear hr h hd hf n1 n2 n3 n4 n5 m1 m2 m3 hU hU1 hD HP hp
    go_enter Tryd.func17, Tryd.ntmps17
    go_wp2_with (refine Q.out.mono ?_; rintro e w1 ⟨v, rfl, hv⟩)
    go_ret
    exact TellsK.then HDI.out HF.out ⟨v, rfl, hv⟩
  by_cases p2 : p = 2
  · subst p2
    have Q := Lib.hid (kSeq_calls hd x m1 m2 m3)
    clear hr h hd hf n1 n2 n3 n4 n5 m1 m2 m3 hU hU1 hD HP hp p1
    go_enter Tryd.func17, Tryd.ntmps17
    go_wp2_with (refine Q.out.mono ?_; rintro e w1 ⟨v, rfl, hv⟩)
    go_ret
    exact TellsK.then HDI.out HF.out ⟨v, rfl, hv⟩
  by_cases p3 : p = 3
  · subst p3
    have Q := Lib.hid (kShort_calls hd x m1)
    clear hr h hd hf n1 n2 n3 n4 n5 m1 m2 m3 hU hU1 hD HP hp p1 p2
    go_enter Tryd.func17, Tryd.ntmps17
    go_wp2_with (refine Q.out.mono ?_; rintro e w1 ⟨v, rfl, hv⟩)
    go_ret
    exact TellsK.then HDI.out HF.out ⟨v, rfl, hv⟩
  by_cases p4 : p = 4
  · subst p4
    obtain ⟨q1, q2, q3⟩ := n4 rfl
    have Q := Lib.hid (kPasted_calls hd x m2 m3 (by rw [hD]; show d.tl.length ≤ 1000; omega) (by rw [hD]; exact q2) (Lib.hid (by rw [hD]; exact q3)) hU1)
    clear hr h hd hf n1 n2 n3 n4 n5 m1 m2 m3 hU hU1 hD HP hp p1 p2 p3 q1 q2 q3
    go_enter Tryd.func17, Tryd.ntmps17
    go_wp2_with (refine Q.out.mono ?_; rintro e w1 ⟨v, rfl, hv⟩)
    go_ret
    exact TellsK.then HDI.out HF.out ⟨v, rfl, hv⟩
  obtain rfl : p = 0 := by omega
  have Q := Lib.hid (kFirst_calls hd x m1)
  clear hr h hd hf n1 n2 n3 n4 n5 m1 m2 m3 hU hU1 hD HP hp p1 p2 p3 p4
  go_enter Tryd.func17, Tryd.ntmps17
  go_wp2_with (refine Q.out.mono ?_; rintro e w1 ⟨v, rfl, hv⟩)
  go_ret
  exact TellsK.then HDI.out HF.out ⟨v, rfl, hv⟩
end Go.Proofs.YticaeflnpgbngaaDoor
namespace Go.Proofs.YticaeflnpgbngaaDoor
set_option linter.unusedVariables false
set_option linter.unusedSimpArgs false
open Go.RowKit Go.Maps
/-! Feed, Tick. -/
theorem readR_len : ∀ (n : Nat) (b : Bs), (readR n b).2.length ≤ b.length
  | 0, b => Nat.le_refl _
  | n + 1, b => by
      rw [readR]
      split
      · rename_i h; rw [h]; simp
      · split
        · exact Nat.le_refl _
        · have := readR_len n (b.drop (oneR b).2)
          rw [List.length_drop] at this
          dsimp only; omega
theorem feed_relL : (b : Bs) → {d : Dc} → {c : Bs} → RelD d c → ∃ c', RelD (feedD d b).2 c' ∧ c'.length ≤ c.length + b.length
  | [], d, c, h => ⟨c, h, by simp⟩
  | x :: b, d, c, h => by
      have h1 := (put_rel h x).2
      obtain ⟨c', h2, h3⟩ := feed_relL b h1
      refine ⟨c', h2, ?_⟩
      have h4 : (putR c x).2.length ≤ (c ++ [x]).length := readR_len _ _
      rw [List.length_append, List.length_singleton] at h4
      rw [List.length_cons]; omega
theorem anewD_len (d : Dc) (k : Nat) (x : UInt8) : (anewD d k x).1.length ≤ d.f.length + 2 := by
  have := firstD_len (d.to 0) x
  have h2 : (d.to 0).f = d.f := rfl
  rw [h2] at this
  show (kb k :: (firstD (d.to 0) x).1).length ≤ _
  rw [List.length_cons]; omega
theorem putD_len (d : Dc) (x : UInt8) : (putD d x).1.length ≤ d.f.length + 2 := by
  have ha := fun k => anewD_len { d with ag := 0 } k x
  have hf := firstD_len { d with ag := 0 } x
  dsimp only at ha hf
  unfold putD
  split
  · unfold behindD
    split
    · simp
    · split
      · simp
      · split
        · exact ha _
        · simp
  · split
    · unfold seqD
      split
      · simp
      · split
        · exact ha _
        · split
          · simp
          · split <;> simp
    · split
      · unfold shortD
        split
        · simp
        · exact ha _
      · split
        · unfold pastedD
          split <;> simp
        · omega
theorem feedD_len : (b : Bs) → {d : Dc} → {c : Bs} → RelD d c → (feedD d b).1.length ≤ 5 * b.length
  | [], d, c, h => by simp [feedD]
  | x :: b, d, c, h => by
      have h1 := (put_rel h x).2
      have h2 := feedD_len b h1
      have h3 := putD_len d x
      have h4 := (rel_num h).1
      rw [feedD, List.length_append, List.length_cons]
      omega
theorem feedD_snoc (d : Dc) (l : Bs) (i : Nat) (x : UInt8) (hx : l[i]? = some x) : feedD d (l.take (i + 1)) = ((feedD d (l.take i)).1 ++ (putD (feedD d (l.take i)).2 x).1, (putD (feedD d (l.take i)).2 x).2) := by
  rw [List.take_add_one, hx]
  show feedD d (l.take i ++ [x]) = _
  rw [feedD_app, feedD_one]
set_option maxRecDepth 100000 in
set_option maxHeartbeats 1600000 in
theorem kFeed_calls {w : World} {db : Nat} {d : Dc} {fp : List Nat} (h : Di w db d fp) {b : Bs} (hr : RelD d b) (A : Option Addr) (c : Nat) (l : Bs) (hA : RdB w A l) (hoff : ∀ a, A = some a → l ≠ [] → a.block ∉ fp) (hb : b.length + l.length ≤ 80000) (hU : ∀ w', Fr (fun k => k ∈ fp) w w' → U8 w') :
    Calls Tryd.prog 21 #[dptr db, .slice A l.length c] w (TellsK w db fp (feedD d l)) := by
  have HM := Lib.hid (Mv.refl h)
  have HA := Lib.hid hA
  have HR := Lib.hid hr
  have HOFF := Lib.hid hoff
  have HU := Lib.hid hU
  clear h hA hr hoff hU
  go_enter Tryd.func21, Tryd.ntmps21
  go_wp2
  go_loopw [5, 10] (fun u5 u10 wr => ∃ (k n : Nat) (A1 : Option Addr) (c1 : Nat), u10 = n64 k ∧ k ≤ l.length ∧ u5 = .slice A1 n c1 ∧ Hid (n = (feedD d (l.take k)).1.length) ∧ Hid (Row wr w.heap.size 46 2 (.slice A1 n c1) n (flatK (feedD d (l.take k)).1)) ∧ Hid (Mv w db fp (feedD d (l.take k)).2 wr)) (fun _ u10 _ => (l.length - intOf u10).toNat)
  case atStart => exact ⟨0, 0, none, 0, rfl, Nat.zero_le _, rfl, Lib.hid rfl, Lib.hid (Row.nil _ _ _ _), HM⟩
  case round =>
    obtain ⟨k, n, A1, c1, rfl, hk, rfl, HN, HK, HV⟩ := hrel
    by_cases hlt : k < l.length
    · obtain ⟨x, hx⟩ : ∃ x, l[k]? = some x := ⟨_, List.getElem?_eq_getElem hlt⟩
      obtain ⟨fpk, hdk, hfk, hmk⟩ := HV.out
      have hrd : Rd wr A (l.map byt) := HA.out.fr hfk fun a ha hne => HOFF.out a ha (by simpa using hne)
      obtain ⟨g, off, rfl, c0⟩ := hrd k (byt x) (by rw [List.getElem?_map, hx]; rfl)
      have b1 : (k : Int) < (l.length : Int) := by omega
      obtain ⟨cR, hR, hRl⟩ := feed_relL (l.take k) HR.out
      rw [List.length_take] at hRl
      have hUk : ∀ w', Fr (fun k => k ∈ fpk) wr w' → U8 w' := fun w' h1 => HU.out w' (hfk.trans h1 fun i hi e => (hmk i e).resolve_right (by omega))
      have hst := feedD_snoc d l k x hx
      have hpl := putD_len (feedD d (l.take k)).2 x
      have hnum := (rel_num hR).1
      have hfl := feedD_len (l.take k) HR.out
      rw [List.length_take] at hfl
      have Q := Lib.hid (kPut_calls hdk x hR (by omega) hUk)
      obtain ⟨o, ho⟩ : ∃ o, o = feedD d (l.take k) := ⟨_, rfl⟩
      rw [← ho] at HN HK HV hdk hst hpl hnum hfl Q
      obtain ⟨p, hp⟩ : ∃ p, p = putD o.2 x := ⟨_, rfl⟩
      rw [← hp] at hst hpl Q
      have hn0 := HN.out
      have HST := Lib.hid hst
      have HD := Lib.hid hdk
      have HFK := Lib.hid hfk
      have HMK := Lib.hid hmk
      have hsz := hfk.size
      have hnb : n ≤ 400000 := by omega
      have hpb : p.1.length ≤ 5 := by omega
      clear hst hdk hfk hmk hx hrd hR hRl hUk hpl hnum hfl ho hp hn0
      go_wp2_with (first
        | ((with_reducible refine Q.out.mono ?_); rintro e w1 ⟨v, rfl, hv, hm1⟩; obtain ⟨A3, c3, rfl, _, _, hrd3, _⟩ := hv.rd; have hK1 : Row w1 w.heap.size 46 2 (.slice A1 n c1) n (flatK o.1) := (by
              have h1 := HK.out
              rw [HN.out] at h1 ⊢
              exact Mv.row HD.out hm1 h1); have hs1 := hm1.size)
        | (at_builtin; refine wpList_append_row _ rfl _ _ 38 rfl w.heap.size 46 2 24 _ Tryd.underlying38 Tryd.info_key rfl (by decide) (.slice A1 n c1) n _ rfl hK1 A3 p.1.length c3 (flatK p.1) rfl (flatK_len p.1) hrd3 (keyCells_one p.1) (by omega) (by simp only [maxLen]; omega) (by omega) ?_; intro A4 c4 w4 hrow4 hg4 hb4))
      go_roundw
      case rel =>
        refine ⟨k + 1, n + p.1.length, A4, c4, by go_num, by omega, rfl, Lib.hid ?_, Lib.hid ?_, Lib.hid ?_⟩
        · rw [HST.out, HN.out, List.length_append]
        · rw [HST.out, flatK_app]; exact hrow4
        · rw [HST.out]
          have hK2 : RowK w1 w.heap.size (.slice A1 n c1) o.1 := by
            have h1 := hK1
            unfold RowK
            rw [← HN.out]; exact h1
          exact (Mv.then HD.out HFK.out HMK.out hm1).grown hK2 (Nat.le_refl _) hg4
      case measure => simp [intOf]; omega
    · obtain rfl : k = l.length := by omega
      go_wp2
      go_ret
      have h1 := HK.out
      have h2 := HV.out
      have h3 := HN.out
      rw [List.take_length] at h1 h2 h3
      exact ⟨_, rfl, by unfold RowK; rw [← h3]; exact h1, h2⟩
end Go.Proofs.YticaeflnpgbngaaDoor
namespace Go.Proofs.YticaeflnpgbngaaDoor
set_option linter.unusedVariables false
set_option linter.unusedSimpArgs false
open Go.RowKit Go.Maps
set_option maxRecDepth 100000 in
set_option maxHeartbeats 1600000 in
theorem kTick_calls {w : World} {db : Nat} {d : Dc} {fp : List Nat} (h : Di w db d fp) {b : Bs} (hr : RelD d b) (ha : d.ag ≤ 1000) :
    Calls Tryd.prog 15 #[dptr db] w (TellsK w db fp (tickD d)) := by
  obtain ⟨n1, n2, n3, n4, n5⟩ := rel_num hr
  obtain ⟨c0, c5, f5⟩ := h.cells
  have qw := WaitsD_calls h
  have qp := Pasting_calls h
  obtain ⟨p, hp⟩ : ∃ p, p = d.ph := ⟨_, rfl⟩
  obtain ⟨a, hag⟩ : ∃ a, a = d.ag := ⟨_, rfl⟩
  obtain ⟨D, hD⟩ : ∃ D : Dc, D = { d with ag := 0 } := ⟨_, rfl⟩
  have hT : tickD d = if waitsD d = false ∨ p = 4 then ([], d) else if a + 1 < 2 then ([], { d with ag := a + 1 }) else if p = 0 then ((runes (D.to 0).f).map sgn, { D.to 0 with f := [] }) else if p = 1 then ([kb 27], D.to 0) else ([kb 0], D.to 0) := by rw [hp, hag, hD]; rfl
  rw [hT]
  have hfl : (D.to 0).f.length ≤ 3 := by rw [hD]; exact n1
  rw [← hp] at c0 n5 qp
  rw [← hag] at c5 ha
  have HD := Lib.hid hD
  clear hT hp hag hD
  by_cases hw : waitsD d = false
  · rw [if_pos (.inl hw)]
    rw [hw] at qw
    have QW := Lib.hid qw
    clear qw qp hw
    go_enter Tryd.func15, Tryd.ntmps15
    go_wp2_with (refine QW.out.mono ?_; rintro e w0 ⟨rfl, rfl⟩)
    go_ret
    exact nil_tells (Mv.refl h)
  rw [Bool.not_eq_false] at hw
  rw [hw] at qw
  have QW := Lib.hid qw
  by_cases p4 : p = 4
  · rw [if_pos (.inr p4)]
    rw [decide_eq_true p4] at qp
    have QP := Lib.hid qp
    clear qw qp hw p4
    go_enter Tryd.func15, Tryd.ntmps15
    go_wp2_with (first | (refine QW.out.mono ?_; rintro e w0 ⟨rfl, rfl⟩) | (refine QP.out.mono ?_; rintro e w0 ⟨rfl, rfl⟩))
    go_ret
    exact nil_tells (Mv.refl h)
  rw [if_neg (fun e => e.elim (fun e => by rw [hw] at e; cases e) p4)]
  rw [decide_eq_false p4] at qp
  have QP := Lib.hid qp
  have hd1 := h.ag (a + 1)
  have hf1 := setCell_mv (w := w) (k := 5) (u := n64 (a + 1)) h.mem
  by_cases a1 : a + 1 < 2
  · rw [if_pos a1]
    have i1 : (a : Int) + 1 < 2 := by omega
    clear qw qp hw
    go_enter Tryd.func15, Tryd.ntmps15
    go_wp2_with (first | (refine QW.out.mono ?_; rintro e w0 ⟨rfl, rfl⟩) | (refine QP.out.mono ?_; rintro e w0 ⟨rfl, rfl⟩))
    go_ret
    exact nil_tells ⟨fp, hd1, hf1, fun b hb => .inl hb⟩
  rw [if_neg a1]
  have i1 : ¬ (a : Int) + 1 < 2 := by omega
  have hd2 := hd1.ag 0
  have hf2 := hf1.trans (setCell_mv (w := w.setCell ⟨db, 5, none⟩ (n64 (a + 1))) (k := 5) (u := n64 0) h.mem) (fun _ _ e => e)
  have HM2 : Hid (Mv w db fp { d with ag := 0 } ((w.setCell ⟨db, 5, none⟩ (n64 (a + 1))).setCell ⟨db, 5, none⟩ (n64 0))) := Lib.hid ⟨fp, hd2, hf2, fun b hb => .inl hb⟩
  rw [← HD.out] at HM2
  clear qw qp hw hd1 hf1 hd2 hf2 n2 n3 n4 hr h
  by_cases p0 : p = 0
  · rw [if_pos p0]
    subst p0
    clear p4 n1 n5
    go_enter Tryd.func15, Tryd.ntmps15
    go_wp2_with (first
      | (refine QW.out.mono ?_; rintro e w0 ⟨rfl, rfl⟩)
      | (refine QP.out.mono ?_; rintro e w0 ⟨rfl, rfl⟩)
      | (refine (toM_calls HM2.out 0).mono ?_; rintro e w1 ⟨rfl, hm1, _⟩; obtain ⟨fp1, hd1, hf1, hs1⟩ := hm1)
      | (refine (fFlush_calls hd1 (by omega)).mono ?_; rintro e w2 ⟨r, rfl, hr2, hm2⟩; have hrl := runes_length (D.to 0).f; have hm2' := Mv.then hd1 hf1 hs1 hm2)
      | (refine (signsR_calls hr2 (by omega) (runes_val _)).mono ?_; rintro e w3 ⟨v, rfl, hv, hb3⟩))
    go_ret
    exact ⟨v, rfl, hv.mono hm2'.size, hm2'.below hb3⟩
  rw [if_neg p0]
  by_cases p1 : p = 1
  · rw [if_pos p1]
    subst p1
    clear p4 n1 n5 p0
    go_enter Tryd.func15, Tryd.ntmps15
    go_wp2_with (first
      | (refine QW.out.mono ?_; rintro e w0 ⟨rfl, rfl⟩)
      | (refine QP.out.mono ?_; rintro e w0 ⟨rfl, rfl⟩)
      | (refine (toM_calls HM2.out 0).mono ?_; rintro e w1 ⟨rfl, hm1, _⟩)
      | (refine (keyone_calls _ w1).mono ?_; rintro e w3 ⟨rfl, rfl⟩))
    go_ret
    exact ⟨_, rfl, one_row w1 w.heap.size 27 hm1.size, hm1.alloc _⟩
  rw [if_neg p1]
  have i0 : ((p : Int) == 0) = false := by rw [beq_eq_false_iff_ne]; omega
  have i2 : ((p : Int) == 1) = false := by rw [beq_eq_false_iff_ne]; omega
  clear p4 n1 n5 p0 p1
  go_enter Tryd.func15, Tryd.ntmps15
  go_wp2_with (first
    | (refine QW.out.mono ?_; rintro e w0 ⟨rfl, rfl⟩)
    | (refine QP.out.mono ?_; rintro e w0 ⟨rfl, rfl⟩)
    | (refine (toM_calls HM2.out 0).mono ?_; rintro e w1 ⟨rfl, hm1, _⟩)
    | (refine (keyone_calls _ w1).mono ?_; rintro e w3 ⟨rfl, rfl⟩))
  go_ret
  exact ⟨_, rfl, one_row w1 w.heap.size 0 hm1.size, hm1.alloc _⟩
end Go.Proofs.YticaeflnpgbngaaDoor
