import Derived.Test.YtpemjhghiccngaaDoorHs18
import Derived.Test.YtpemjhghiccngaaDoorHs19
namespace Go.Proofs.YtpemjhghiccngaaDoor
set_option linter.unusedVariables false
set_option linter.unusedSimpArgs false
open Go.RowKit Go.Shelf
/-! The program's entries are the document's. -/
abbrev foldN (a : List Bs) (l : List EntT) : List Bs := l.foldl (fun out x => nub out x.c) a
theorem nub_nodup {a : List Bs} (h : a.Nodup) (x : Bs) : (nub a x).Nodup := by
  unfold nub
  split
  · exact h
  · rename_i hx
    rw [List.nodup_append]
    refine ⟨h, by simp, fun y hy z hz e => hx ?_⟩
    rw [List.mem_singleton] at hz
    rw [← hz, ← e]; exact hy
theorem foldN_nodup : (l : List EntT) → (a : List Bs) → a.Nodup → (foldN a l).Nodup
  | [], a, h => h
  | x :: l, a, h => foldN_nodup l (nub a x.c) (nub_nodup h x.c)
theorem cmdsE_nodup (l : List EntT) : (cmdsE l).Nodup := foldN_nodup l.reverse [] List.nodup_nil
theorem nub_filter (q : Bs → Bool) (a : List Bs) (x : Bs) : (nub a x).filter q = if q x = true then nub (a.filter q) x else a.filter q := by
  unfold nub
  by_cases hq : q x = true
  · rw [if_pos hq]
    by_cases hx : x ∈ a
    · rw [if_pos hx, if_pos (List.mem_filter.2 ⟨hx, hq⟩)]
    · rw [if_neg hx, if_neg (fun h => hx (List.mem_filter.1 h).1), List.filter_append]; simp [hq]
  · rw [if_neg hq]
    split
    · rfl
    · rw [List.filter_append]; simp [hq]
theorem foldN_filter (q : Bs → Bool) : (l : List EntT) → (a : List Bs) → (foldN a l).filter q = foldN (a.filter q) (l.filter fun x => q x.c)
  | [], a => rfl
  | x :: l, a => by
      have ih := foldN_filter q l (nub a x.c)
      unfold foldN at ih ⊢
      rw [List.foldl_cons, ih, nub_filter]
      by_cases hq : q x.c = true
      · rw [if_pos hq, List.filter_cons_of_pos (p := fun x : EntT => q x.c) hq, List.foldl_cons]
      · rw [if_neg hq, List.filter_cons_of_neg (p := fun x : EntT => q x.c) hq]
theorem cmdsE_filter (q : Bs → Bool) (l : List EntT) : (cmdsE l).filter q = cmdsE (l.filter fun x => q x.c) := by
  unfold cmdsE cmdsR
  have := foldN_filter q l.reverse []
  unfold foldN at this
  rw [this, List.filter_nil, List.filter_reverse]
theorem foldN_first (x : Bs) : (l : List EntT) → (a : List Bs) → foldN (x :: a.filter fun y => !decide (y = x)) l = x :: (foldN a l).filter fun y => !decide (y = x)
  | [], a => rfl
  | z :: l, a => by
      have ih := foldN_first x l (nub a z.c)
      unfold foldN at ih ⊢
      rw [List.foldl_cons, List.foldl_cons, ← ih]
      congr 1
      rw [nub_filter]
      by_cases hz : z.c = x
      · rw [if_neg (by simp [hz])]
        unfold nub
        rw [if_pos (by rw [hz]; exact List.mem_cons_self ..)]
      · rw [if_pos (by simp [hz])]
        unfold nub
        by_cases hm : z.c ∈ a
        · rw [if_pos (List.mem_cons_of_mem _ (List.mem_filter.2 ⟨hm, by simp [hz]⟩)), if_pos (List.mem_filter.2 ⟨hm, by simp [hz]⟩)]
        · have h1 : ¬ z.c ∈ a.filter fun y => !decide (y = x) := fun h => hm (List.mem_filter.1 h).1
          rw [if_neg h1, if_neg (fun h => by rcases List.mem_cons.1 h with e | e; · exact hz e
                                             · exact h1 e)]
          rfl
theorem cmdsE_snoc (X : List EntT) (e : EntT) : cmdsE (X ++ [e]) = e.c :: (cmdsE X).filter fun y => !decide (y = e.c) := by
  have h := foldN_first e.c X.reverse []
  unfold cmdsE cmdsR
  rw [List.reverse_append, List.reverse_singleton, List.singleton_append, List.foldl_cons]
  unfold foldN at h
  rw [← h]
  rfl
/-- without, of all. -/
theorem wo_all (s : Bs) : (l : List EntT) → (a : List EntT) → (n : Nat) → l.length ≤ n → (l.foldl (woStep s) (a, n)).1 = a ++ l.filter fun x => !decide (x.c = s)
  | [], a, n, _ => by simp
  | x :: l, a, n, h => by
      rw [List.length_cons] at h
      rw [List.foldl_cons]
      by_cases hx : x.c = s
      · rw [woStep, if_pos ⟨hx, by omega⟩, List.filter_cons_of_neg (by simp [hx])]
        exact wo_all s l a (n - 1) (by omega)
      · rw [woStep, if_neg (fun h => hx h.1), wo_all s l _ n (by omega), List.filter_cons_of_pos (by simp [hx])]
        simp
theorem woF_all (l : List EntT) (s : Bs) : (woF l s l.length).1 = l.filter fun x => !decide (x.c = s) := by
  unfold woF
  rw [wo_all s l [] l.length (Nat.le_refl _)]; rfl
theorem wo_zero (s : Bs) : (l : List EntT) → (a : List EntT) → (l.foldl (woStep s) (a, 0)).1 = a ++ l
  | [], a => by simp
  | x :: l, a => by
      rw [List.foldl_cons, woStep, if_neg (fun h => by have := h.2; omega), wo_zero s l]
      simp
/-- without, of the first one. -/
theorem wo_one (s : Bs) : (l : List EntT) → (a : List EntT) → (l.foldl (woStep s) (a, 1)).1 = a ++ l.eraseIdx (l.findIdx fun x => decide (x.c = s))
  | [], a => by simp
  | x :: l, a => by
      rw [List.foldl_cons]
      by_cases hx : x.c = s
      · rw [woStep, if_pos ⟨hx, by omega⟩]
        have h1 := wo_zero s l a
        rw [show (1 - 1 : Nat) = 0 from rfl, h1, List.findIdx_cons]
        simp [hx]
      · rw [woStep, if_neg (fun h => hx h.1), wo_one s l, List.findIdx_cons]
        simp [hx]
theorem addP1_eq (l : List EntT) (e : EntT) : addP1 l e = addL1 l e := by
  unfold addP1 addL1 usesE
  split
  · unfold woF
    rw [wo_one]; rfl
  · rfl
theorem addL1_cmds (l : List EntT) (e : EntT) : cmdsE (addL1 l e) = e.c :: (cmdsE l).filter fun y => !decide (y = e.c) := by
  rw [← addP1_eq]
  unfold addP1
  split
  · rename_i h6
    -- an earlier one is there
    have hmem : ∃ x ∈ l, x.c = e.c := by
      apply Classical.byContradiction
      intro hno
      have : usesE (l ++ [e]) e.c = [e] := by
        unfold usesE
        rw [List.filter_append, List.filter_eq_nil_iff.2 (fun x hx => by simp; intro hc; exact hno ⟨x, hx, hc⟩)]
        simp
      rw [this] at h6; simp at h6
    obtain ⟨x0, hx0, hc0⟩ := hmem
    have hk : l.findIdx (fun x => decide (x.c = e.c)) < l.length := List.findIdx_lt_length.2 ⟨x0, hx0, by simp [hc0]⟩
    have hf : (l ++ [e]).findIdx (fun x => decide (x.c = e.c)) = l.findIdx fun x => decide (x.c = e.c) := by
      rw [List.findIdx_append, if_pos hk]
    rw [hf, List.eraseIdx_append_of_lt_length hk, cmdsE_snoc]
    congr 1
    rw [cmdsE_filter, cmdsE_filter]
    congr 1
    have hp : decide ((l[l.findIdx fun x => decide (x.c = e.c)]'hk).c = e.c) = true := List.findIdx_getElem (p := fun x : EntT => decide (x.c = e.c))
    generalize l.findIdx (fun x => decide (x.c = e.c)) = k at hk hp
    rw [List.eraseIdx_eq_take_drop_succ]
    conv => rhs; rw [← List.take_append_drop k l, List.drop_eq_getElem_cons hk]
    rw [List.filter_append, List.filter_append, List.filter_cons_of_neg (by simpa using hp)]
  · exact cmdsE_snoc l e
/-- Between calls. -/
def InvC (l : List EntT) (c : List Bs) : Prop := c.reverse = cmdsE l
theorem InvC.nil : InvC [] [] := rfl
theorem InvC.len {l : List EntT} {c : List Bs} (h : InvC l c) : c.length = (cmdsE l).length := by
  rw [← h, List.length_reverse]
theorem cmdsP_rev {l : List EntT} {c : List Bs} (h : InvC l c) (e : EntT) : (cmdsP c e).reverse = cmdsE (addL1 l e) := by
  unfold cmdsP
  rw [addL1_cmds, ← h, List.reverse_append, List.reverse_singleton, List.singleton_append, List.filter_reverse]
theorem head_last {c : List Bs} {L : List EntT} (h : c.reverse = cmdsE L) : headC c = lastC L := by
  unfold headC lastC
  rw [← h]
  cases c with
  | nil => rfl
  | cons a b => simp
theorem filter_drop {c : List Bs} (h : c.Nodup) : c.filter (fun y => !decide (y = c.headD [])) = c.tail := by
  cases c with
  | nil => rfl
  | cons a b =>
    rw [List.headD_cons, List.tail_cons, List.filter_cons_of_neg (by simp)]
    refine List.filter_eq_self.2 fun x hx => ?_
    have := (List.nodup_cons.1 h).1
    simp
    intro e
    rw [e] at hx; exact this hx
/-- A step of both. -/
theorem add_both {l : List EntT} {c : List Bs} (h : InvC l c) (e : EntT) : addPL l c e = addL l e ∧ goneP c e = goneL l e ∧ InvC (addL l e) (addPC c e) := by
  have hr := cmdsP_rev h e
  have hlen : (cmdsP c e).length = (cmdsE (addL1 l e)).length := by rw [← hr, List.length_reverse]
  unfold addPL addL goneP goneL addPC
  cases rightE e with
  | false =>
    rw [if_neg (by simp), if_neg (by simp), if_neg (by simp), if_neg (by simp), if_neg (by simp)]
    exact ⟨rfl, rfl, h⟩
  | true =>
    rw [if_pos rfl, if_pos rfl, if_pos rfl, if_pos rfl, if_pos rfl]
    by_cases h40 : (cmdsP c e).length ≤ 40
    · rw [if_pos h40, if_pos h40, if_pos h40, if_pos (by rw [← hlen]; exact h40), if_pos (by rw [← hlen]; exact h40)]
      exact ⟨addP1_eq l e, rfl, hr⟩
    · rw [if_neg h40, if_neg h40, if_neg h40, if_neg (by rw [← hlen]; exact h40), if_neg (by rw [← hlen]; exact h40)]
      have hh := head_last hr
      rw [hh, addP1_eq, woF_all]
      refine ⟨rfl, rfl, ?_⟩
      unfold InvC
      have h1 := cmdsE_filter (fun y => !decide (y = lastC (addL1 l e))) (addL1 l e)
      rw [← h1, ← hr, ← hh, List.filter_reverse]
      have hn : (cmdsP c e).Nodup := by
        have := cmdsE_nodup (addL1 l e)
        rw [← hr] at this
        exact (List.pairwise_reverse.1 this).imp fun h => Ne.symm h
      unfold headC
      rw [filter_drop hn]
end Go.Proofs.YtpemjhghiccngaaDoor
namespace Go.Proofs.YtpemjhghiccngaaDoor
set_option linter.unusedVariables false
set_option linter.unusedSimpArgs false
open Go.RowKit Go.Shelf
/-! A history that stands as the document's, in blocks from B on. -/
def Hg (B : Nat) (w : World) (hb : Nat) (L : List EntT) : Prop := ∃ c fp, Hi w hb L c fp ∧ InvC L c ∧ ∀ b ∈ fp, B ≤ b
theorem Hg.later {B : Nat} {w w' : World} {hb : Nat} {L : List EntT} (h : Hg B w hb L) (b : Below w.heap.size w w') : Hg B w' hb L := by
  obtain ⟨c, fp, h1, h2, h3⟩ := h
  exact ⟨c, fp, h1.later b, h2, h3⟩
theorem Hg.mono {B B' : Nat} {w : World} {hb : Nat} {L : List EntT} (h : Hg B w hb L) (hB : B' ≤ B) : Hg B' w hb L := by
  obtain ⟨c, fp, h1, h2, h3⟩ := h
  exact ⟨c, fp, h1, h2, fun b hb => Nat.le_trans hB (h3 b hb)⟩
theorem Hg.low {B D : Nat} {w w' : World} {hb : Nat} {L : List EntT} (h : Hg B w hb L) (b : Below D w w') (hD : ∀ k, k < w.heap.size → k < D) : Hg B w' hb L := by
  obtain ⟨c, fp, h1, h2, h3⟩ := h
  exact ⟨c, fp, h1.move fun k hk => b.block k (hD k (h1.lt k hk)), h2, h3⟩
def HgAdd (B : Nat) (w : World) (hb : Nat) (L : List EntT) (e : EntT) (x : Ending) (w' : World) : Prop :=
  ∃ A1 c1, x = .returned (.tuple #[.slice A1 (goneL L e).length c1, .int .i64 (codeP e)]) ∧ Row w' w.heap.size 9 1 (.slice A1 (goneL L e).length c1) (goneL L e).length ((goneL L e).map str) ∧ Hg B w' hb (addL L e) ∧ Below B w w'
theorem HgAdd_calls (B : Nat) (w : World) (hU : U8 w) {hb : Nat} {L : List EntT} (h : Hg B w hb L) (hB : B ≤ w.heap.size) (hl : L.length ≤ 100000) (e : EntT) (hd : e.d.length ≤ 1000000) (hc : e.c.length ≤ 1000000) :
    Calls Tryd.prog 14 #[hptr hb, entV e] w (HgAdd B w hb L e) := by
  obtain ⟨c, fp, h1, h2, h3⟩ := h
  have hcl : c.length ≤ 100000 := by rw [h2.len]; have := cmdsE_len L; omega
  refine (HAdd_calls w hU h1 hl hcl e hd hc).mono ?_
  rintro x w' ⟨A1, c1, fp', rfl, k1, k2, k3, k4⟩
  obtain ⟨m1, m2, m3⟩ := add_both h2 e
  rw [m1] at k2
  rw [m2] at k1
  refine ⟨A1, c1, by rw [m2], k1, ⟨_, fp', k2, m3, fun b hb => ?_⟩, k3.below hB fun k _ hk => h3 k hk⟩
  rcases k4 b hb with e1 | e1
  · exact h3 b e1
  · omega
set_option maxRecDepth 100000 in
set_option maxHeartbeats 3200000 in
theorem HOf_calls (w : World) (hU : U8 w) (A : Option Addr) (cap : Nat) (l : List EntT) (hr : Rd w A (flatE l)) (hl : l.length ≤ 100000) (hs : SmallE l) :
    Calls Tryd.prog 22 #[.slice A l.length cap] w fun x w' => ∃ hb, x = .returned (hptr hb) ∧ Hg w.heap.size w' hb (ofL l) ∧ Below w.heap.size w w' := by
  have HA := Lib.hid hr
  have HU := Lib.hid hU
  have HSM := Lib.hid hs
  clear hr hU hs
  go_enter Tryd.func22, Tryd.ntmps22
  go_wp2_with fail
  refine (HNew_calls w).mono ?_
  rintro x w1 ⟨rfl, h1, b1⟩
  have hg1 : Hg w.heap.size w1 w.heap.size [] := ⟨[], _, h1, InvC.nil, fun b hb => by rw [List.mem_singleton.1 hb]; exact Nat.le_refl _⟩
  have HG1 := Lib.hid hg1
  have HB1 := Lib.hid b1
  obtain ⟨hb, hhb⟩ : ∃ hb, hb = w.heap.size := ⟨_, rfl⟩
  rw [show hptr w.heap.size = hptr hb by rw [hhb]]
  have HG1 : Hid (Hg w.heap.size w1 hb []) := Lib.hid (by rw [hhb]; exact hg1)
  clear h1 b1 hg1 hhb
  go_wp2
  go_loopw [9] (fun u9 wr => ∃ k : Nat, u9 = n64 k ∧ k ≤ l.length ∧ Hid (Hg w.heap.size wr hb (ofL (l.take k))) ∧ Hid (Below w.heap.size w wr)) (fun u9 _ => (l.length - intOf u9).toNat)
  case atStart => exact ⟨0, rfl, Nat.zero_le _, HG1, HB1⟩
  case round =>
    obtain ⟨k, rfl, hk, HG, HW⟩ := hrel
    by_cases hlt : k < l.length
    · obtain ⟨x, hx⟩ : ∃ x, l[k]? = some x := ⟨_, List.getElem?_eq_getElem hlt⟩
      obtain ⟨g, off, rfl, v0, v1, v2⟩ := RdE.at (HA.out.later HW.out) hx
      have hst := ofL_step hx
      have hsm := HSM.out x (List.mem_of_getElem? hx)
      obtain ⟨L, hL⟩ : ∃ L, L = ofL (l.take k) := ⟨_, rfl⟩
      have hLl : L.length ≤ k := by rw [hL]; have := ofL_len (l.take k); rw [List.length_take] at this; omega
      rw [← hL] at HG hst
      obtain ⟨wv, ev, hv, bv⟩ := new_ent wr x 35
      obtain ⟨q0, q1, q2⟩ := ent_cells hv
      have bW := HW.out.trans (bv.mono HW.out.size)
      have q := HgAdd_calls w.heap.size wv (HU.out.later bW) (HG.out.later bv) bW.size (by omega) x hsm.1 hsm.2
      unfold entV at q
      have Q := Lib.hid q
      have HEV := Lib.hid ev
      have b1 : (k : Int) < (l.length : Int) := by omega
      have HST := Lib.hid hst
      have HBW := Lib.hid bW
      clear hx hst hsm hL q ev hv bv bW q0 q1 q2
      go_wp2_with fail
      rw [HEV.out]
      refine Q.out.mono ?_
      rintro y w2 ⟨A2, c2, rfl, _, hg2, b2⟩
      have HG2 : Hid (Hg w.heap.size w2 hb (ofL (l.take (k + 1)))) := Lib.hid (by rw [HST.out]; exact hg2)
      have HB2 := Lib.hid (HBW.out.trans b2)
      clear hg2 b2 v0 v1 v2
      go_wp2
      go_roundw
      case rel => exact ⟨k + 1, by go_num, by omega, HG2, HB2⟩
      case measure => simp [intOf]; omega
    · obtain rfl : k = l.length := by omega
      go_wp2
      go_ret
      have hg := HG.out
      rw [List.take_length] at hg
      exact ⟨_, rfl, hg, HW.out⟩
end Go.Proofs.YtpemjhghiccngaaDoor
