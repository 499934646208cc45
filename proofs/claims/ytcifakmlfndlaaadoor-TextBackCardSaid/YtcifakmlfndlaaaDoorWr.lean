import Derived.Test.YtcifakmlfndlaaaDoorWo
import Derived.Test.YtcifakmlfndlaaaDoorWc
import Derived.Test.YtcifakmlfndlaaaDoorCv
import Derived.Test.YtcifakmlfndlaaaDoorSr3
import Derived.Test.YtcifakmlfndlaaaDoorWe
import Derived.Test.YtcifakmlfndlaaaDoorIn2
import Derived.Test.YtcifakmlfndlaaaDoorWf
import Derived.Test.YtcifakmlfndlaaaDoorMem
import Derived.Deep.RegionHeld3
namespace Go.Proofs.YtcifakmlfndlaaaDoor
open Go.RowKit
/-- A cell of a row of the call's own, and what stands behind a store into it. -/
theorem Row.set {w : World} {B : Nat} {e : TypeId} {A : Option Addr} {c n : Nat} {xs : List Value} (h : Row w B e 1 (.slice A n c) n xs) {k : Nat} (hk : k < n) :
    ∃ g off, A = some ⟨g, off, none⟩ ∧ B ≤ g ∧ g < w.heap.size ∧ w.cell? ⟨g, off + k, none⟩ = xs[k]? ∧ w.frozen? ⟨g, off + k, none⟩ = false ∧ ∀ u, Row (w.setCell ⟨g, off + k, none⟩ u) B e 1 (.slice A n c) n (xs.set k u) := by
  obtain ⟨hl, h2⟩ := h
  rcases h2 with ⟨hv, rfl⟩ | ⟨g, off, cap, cur, hv, hb, hg, hn, hm, hs, ht⟩
  · omega
  · cases hv
    refine ⟨g, off, rfl, hb, lt_of_heap hg, ?_, frozen_of_row w g _ cur e hg, fun u => ⟨by simp [hl], .inr ⟨g, off, c, _, rfl, hb, heap_setCell_same w g (off + k) cur e u hg, hn, hm, by simpa using hs, ?_⟩⟩⟩
    · rw [cell_of_row w g (off + k) cur e (0, 0) hg, ← ht, List.getElem?_take, if_pos (by omega), List.getElem?_drop]
      simp
    · rw [← ht, Array.toList_setIfInBounds, List.drop_set, if_neg (by omega), Nat.add_sub_cancel_left, List.take_set]
/-- Where ref.Cut stands. -/
def CutInv (l : Bs) (pos : Nat) (cs : List Bs) : Prop :=
  pos ≤ l.length ∧ ((cs = [] ∧ pos = 0) ∨ ∃ init cur, cs = init ++ [cur] ∧ init ++ cl cur (sg (l.drop pos)) = cuts l)
theorem CutInv.new {l : Bs} {pos : Nat} {cs : List Bs} (h : CutInv l pos cs) (hp : pos < l.length) (hz : cs = [] ∨ wof ((dec (l.drop pos)).1 : Int) ≠ 0) :
    CutInv l (pos + (dec (l.drop pos)).2) (cs ++ [(l.drop pos).take (dec (l.drop pos)).2]) := by
  have hne : l.drop pos ≠ [] := List.length_pos_iff.1 (by simp; omega)
  have h2 := dec_le hne
  rw [List.length_drop] at h2
  refine ⟨by omega, .inr ⟨cs, _, rfl, ?_⟩⟩
  rcases h.2 with ⟨rfl, rfl⟩ | ⟨init, cur, rfl, e⟩
  · rw [List.drop_zero] at hne ⊢
    rw [cuts_cons hne]; simp
  · have hw : w0 ((l.drop pos).take (dec (l.drop pos)).2) = false := by
      unfold w0
      rw [dec_takeGe hne (Nat.le_refl _)]
      rcases hz with hz | hz
      · simp at hz
      · simpa using hz
    rw [← e, sg_cons hne, cl, if_neg (by rw [hw]; simp), List.drop_drop]
    simp
theorem CutInv.more {l : Bs} {pos : Nat} {init : List Bs} {cur : Bs} (h : CutInv l pos (init ++ [cur])) (hp : pos < l.length) (hz : wof ((dec (l.drop pos)).1 : Int) = 0) :
    CutInv l (pos + (dec (l.drop pos)).2) (init ++ [cur ++ (l.drop pos).take (dec (l.drop pos)).2]) := by
  have hne : l.drop pos ≠ [] := List.length_pos_iff.1 (by simp; omega)
  have h2 := dec_le hne
  rw [List.length_drop] at h2
  refine ⟨by omega, .inr ⟨init, _, rfl, ?_⟩⟩
  rcases h.2 with ⟨e, _⟩ | ⟨init', cur', e1, e⟩
  · simp at e
  · obtain ⟨rfl, e2⟩ := List.append_inj' e1 rfl
    cases e2
    have hw : w0 ((l.drop pos).take (dec (l.drop pos)).2) = true := by
      unfold w0
      rw [dec_takeGe hne (Nat.le_refl _), hz]; rfl
    rw [← e, sg_cons hne, cl, if_pos hw, List.drop_drop]
theorem CutInv.cur_le {l : Bs} {pos : Nat} {init : List Bs} {cur : Bs} (h : CutInv l pos (init ++ [cur])) : cur.length ≤ l.length := by
  rcases h.2 with ⟨e, _⟩ | ⟨init', cur', e1, e⟩
  · simp at e
  · obtain ⟨rfl, e2⟩ := List.append_inj' e1 rfl
    cases e2
    have := congrArg (fun x => List.length (List.flatten x)) e
    rw [List.flatten_append, cl_flat, cuts_flat, List.length_append, List.length_append] at this
    omega
theorem CutInv.done {l : Bs} {cs : List Bs} (h : CutInv l l.length cs) : cs = cuts l := by
  rcases h.2 with ⟨rfl, e⟩ | ⟨init, cur, rfl, e⟩
  · have : l = [] := List.eq_nil_of_length_eq_zero e
    subst this; rw [cuts_nil]
  · rw [← e, List.drop_length, sg_nil]; rfl
end Go.Proofs.YtcifakmlfndlaaaDoor
namespace Go.Proofs.YtcifakmlfndlaaaDoor
open Go.RowKit
set_option maxRecDepth 100000 in
set_option maxHeartbeats 400000 in
theorem rCut_calls (l : Bs) (hl : l.length ≤ 4294967296) (s : ByteArray) (hs : s = ⟨l.toArray⟩) (w : World) :
    Calls Tryd.prog 24 #[.string s] w fun e w' => ∃ v, e = .returned v ∧ Row w' w.heap.size 9 1 v (cuts l).length ((cuts l).map str) ∧ Below w.heap.size w w' := by
  have hcl := cuts_len l
  have HS0 := Lib.hid hs
  clear hs
  go_enter Tryd.func24, Tryd.ntmps24
  go_wp2
  go_loopw [0, 3] (fun u0 u3 wr => ∃ (pos : Nat) (cs : List Bs), u0 = str (l.drop pos) ∧ Row wr w.heap.size 9 1 u3 cs.length (cs.map str) ∧ Below w.heap.size w wr ∧ CutInv l pos cs ∧ cs.length ≤ pos) (fun u0 _ _ => sizeOfS u0)
  case atStart => exact ⟨0, [], by rw [HS0.out, List.drop_zero], Row.nil _ _ _ _, Below.refl _ _, ⟨Nat.zero_le _, .inl ⟨rfl, rfl⟩⟩, Nat.le_refl _⟩
  case round =>
    obtain ⟨pos, cs, rfl, hrow, hB, hinv, hcp⟩ := hrel
    have hpl := hinv.1
    have HI := Lib.hid hinv
    clear hinv
    obtain ⟨t, ht⟩ : ∃ t, t = l.drop pos := ⟨_, rfl⟩
    have htl : t.length = l.length - pos := by rw [ht]; simp
    obtain ⟨s, hs⟩ : ∃ s : ByteArray, s = ⟨t.toArray⟩ := ⟨_, rfl⟩
    have hsz : s.size = t.length := by rw [hs, str_of]
    rw [show str (l.drop pos) = .string s from by rw [hs, ht]]
    have HT := Lib.hid ht
    have HS := Lib.hid hs
    clear ht
    by_cases hp : pos < l.length
    · have hne : t ≠ [] := List.length_pos_iff.1 (by omega)
      obtain ⟨cap, W, hcv, h1, h2, h3, h4⟩ := conv_bytes (P := Tryd.prog) wr _ _ _ t Tryd.underlying9 Tryd.underlying59 Tryd.underlying5 (by simp only [maxLen]; omega)
      rw [← hs] at hcv
      clear hs
      have hd1 := dec_pos t
      have hd2 := dec_le hne
      have hnx := nxt_ne hne
      have hex1 := extract_eq t 0 (dec t).2
      have hex2 := extract_eq t (dec t).2 s.size
      rw [← HS.out] at hex1 hex2
      rw [hsz, List.take_length] at hex2
      simp only [List.drop_zero] at hex1
      have HX1 := Lib.hid hex1
      have HX2 := Lib.hid hex2
      clear hex1 hex2
      obtain ⟨r, hr⟩ : ∃ r : Int, r = ((dec t).1 : Int) := ⟨_, rfl⟩
      obtain ⟨n, hn⟩ : ∃ n, n = (dec t).2 := ⟨_, rfl⟩
      rw [← hn] at hd1 hd2 HX1 HX2
      have HR := Lib.hid hr
      have HN := Lib.hid hn
      have i0 : (0 : Int) ≤ (n : Int) := by omega
      have i1 : (n : Int) ≤ (s.size : Int) := by omega
      have HTL := Lib.hid htl
      have htl2 : t.length ≤ 4294967296 := by omega
      clear htl hr hn
      go_wp2_with (go_at_call 43; refine (rNext_calls _ cap t W h3 htl2).mono ?_; rintro e w1 ⟨rfl, hb1⟩; rw [hnx, show i64 ((dec t).1 : Int) = .int .i64 r from by rw [HR.out], show i64 ((dec t).2 : Int) = .int .i64 n from by rw [HN.out]]; have B1 := hB.trans ((h4.trans (hb1.mono h4.size)).mono hB.size))
      have C1 : Below wr.heap.size wr w1 := h4.trans (hb1.mono h4.size)
      obtain ⟨A, c, rfl, hcn, hcm, hrd, hA⟩ := hrow.rd
      have hroww := hrow
      by_cases hz : wof r = 0 ∧ cs ≠ []
      · obtain ⟨hz1, hz2⟩ := hz
        have hlp := List.length_pos_iff.2 hz2
        obtain ⟨g, off, rfl, hgb, hgl, hcell, hfz, _⟩ := hrow.set (k := cs.length - 1) (by omega)
        obtain ⟨init, cur, rfl⟩ : ∃ init cur, cs = init ++ [cur] := ⟨cs.dropLast, cs.getLast hz2, (List.dropLast_concat_getLast hz2).symm⟩
        have hln : (init ++ [cur]).length = init.length + 1 := by simp
        simp only [hln, Nat.add_sub_cancel] at *
        have hcell' : wr.cell? ⟨g, off + init.length, none⟩ = some (str cur) := by rw [hcell]; simp
        have hc0 : (0 : Int) < ((init.length + 1 : Nat) : Int) := by omega
        have hadd : ∀ W, (Op.stringOp .add ⟨cur.toArray⟩ (s.extract 0 n)).run Tryd.prog W = .ok (.string (⟨cur.toArray⟩ ++ s.extract 0 n)) W := fun W => by
          rw [run_string_add_sum (P := Tryd.prog) W _ _ (by rw [HX1.out, str_of, str_of, List.length_take]; have := HI.out.cur_le; omega)]
        clear hcell
        go_wp2_with (go_at_call 44; refine (rOf_calls r w1).mono ?_; rintro e w2 ⟨rfl, hb2⟩; rw [hz1]; have C2 := C1.trans (hb2.mono C1.size); have hcell2 := (C2.cell (p := ⟨g, off + init.length, none⟩) hgl).trans hcell'; have hfz2 := (C2.frozen (p := ⟨g, off + init.length, none⟩) hgl).trans hfz)
        have hB2 := hB.trans (C2.mono hB.size)
        have j1 : (init.length : Int) < (init.length : Int) + 1 := by omega
        have j2 : (0 : Int) ≤ (init.length : Int) := by omega
        have j3 : (init.length : Int) + 1 - 1 = (init.length : Int) := by omega
        have j4 : IntKind.i64.wrap ((init.length : Int) + 1 - 1) = (init.length : Int) := by rw [j3]; exact IntWalk.i64_in _ (by omega)
        have j5 : IntKind.i64.wrap (init.length : Int) = (init.length : Int) := IntWalk.i64_in _ (by omega)
        have hfo : Tryd.prog.follows Departure.mixedOrders = true := by kernel_rfl
        have hcd : w2.drew.cell? ⟨g, off + init.length, none⟩ = some (str cur) := hcell2
        have hfd : w2.drew.frozen? ⟨g, off + init.length, none⟩ = false := hfz2
        go_region
        all_goals
          go_wp2
          go_roundw
          case rel =>
            have hst : (⟨cur.toArray⟩ : ByteArray) ++ s.extract 0 n = ⟨(cur ++ t.take n).toArray⟩ := by rw [HX1.out, ByteArray.mk_append_mk]
            have hrow2 := hrow.below C2 (Nat.le_refl _)
            obtain ⟨g', off', e', _, _, _, _, hset2⟩ := Row.set hrow2 (k := init.length) (by omega)
            cases e'
            refine ⟨pos + n, init ++ [cur ++ t.take n], by rw [HX2.out, HT.out, List.drop_drop], ?_, (hB2.setCell (p := ⟨g, off + init.length, none⟩) hgb _).drew, ?_, by simp; omega⟩
            · rw [hst]
              have := (hset2 (str (cur ++ t.take n))).at_ (w' := (w2.setCell ⟨g, off + init.length, none⟩ (str (cur ++ t.take n))).drew) (fun _ _ => rfl)
              simpa using this
            · have := HI.out.more hp (by rw [← HT.out, ← HR.out]; exact hz1)
              rw [← HT.out, ← HN.out] at this
              exact this
          case measure => rw [HX2.out]; simp only [sizeOfS, str_of, List.length_drop]; omega
      · by_cases hz1 : wof r = 0
        · have hz2 : cs = [] := Classical.byContradiction fun e => hz ⟨hz1, e⟩
          have h0 : decide ((0 : Int) < (cs.length : Int)) = false := by rw [hz2]; rfl
          have h0' : ¬ (0 : Int) < (cs.length : Int) := by rw [hz2]; simp
          have hc9 : cs.length ≤ 4294967296 := by omega
          have HZ := Lib.hid hz2
          clear hz2 hz
          go_wp2_with (first
            | (go_at_call 44; refine (rOf_calls r w1).mono ?_; rintro e w2 ⟨rfl, hb2⟩; rw [hz1]; have C2 := C1.trans (hb2.mono C1.size); have hrow2 := hrow.below C2 (Nat.le_refl _); have hB2 := hB.trans (C2.mono hB.size))
            | (at_builtin; refine wpList_append_row _ rfl _ _ 47 rfl w.heap.size 9 1 16 _ Tryd.underlying47 Tryd.info_str rfl (by decide) (.slice A cs.length c) _ _ rfl (hrow2.alloc _) _ 1 1 [.string (s.extract 0 n)] rfl rfl (Rd.new1 _ _ _) (by simp [Value.oneCell']) (by omega) (by simp only [maxLen]; omega) (by simp; have := hB2.size; omega) ?_; intro A3 c3 w3 hrow3 hg3 hb3))
          go_roundw
          case rel =>
            rw [HX1.out] at hrow3
            refine ⟨pos + n, cs ++ [t.take n], by rw [HX2.out, HT.out, List.drop_drop], by simpa using hrow3, app_below hB2 (by have := hB2.size; omega) hg3 (fun k e => (hrow2.lt _ e).1), ?_, by simp; omega⟩
            have := HI.out.new hp (.inl HZ.out)
            rw [← HT.out, ← HN.out] at this
            exact this
          case measure => rw [HX2.out]; simp only [sizeOfS, str_of, List.length_drop]; omega
        · have hz3 : (wof r == 0) = false := by simpa using hz1
          obtain ⟨z, hzz⟩ : ∃ z, z = wof r := ⟨_, rfl⟩
          rw [← hzz] at hz3
          have HZ := Lib.hid hzz
          clear hzz hz
          go_wp2_with (first
            | (go_at_call 44; refine (rOf_calls r w1).mono ?_; rintro e w2 ⟨rfl, hb2⟩; rw [← HZ.out]; have C2 := C1.trans (hb2.mono C1.size); have hrow2 := hrow.below C2 (Nat.le_refl _); have hB2 := hB.trans (C2.mono hB.size))
            | (at_builtin; refine wpList_append_row _ rfl _ _ 47 rfl w.heap.size 9 1 16 _ Tryd.underlying47 Tryd.info_str rfl (by decide) (.slice A cs.length c) _ _ rfl (hrow2.alloc _) _ 1 1 [.string (s.extract 0 n)] rfl rfl (Rd.new1 _ _ _) (by simp [Value.oneCell']) (by omega) (by simp only [maxLen]; omega) (by simp; have := hB2.size; omega) ?_; intro A3 c3 w3 hrow3 hg3 hb3))
          go_roundw
          case rel =>
            rw [HX1.out] at hrow3
            refine ⟨pos + n, cs ++ [t.take n], by rw [HX2.out, HT.out, List.drop_drop], by simpa using hrow3, app_below hB2 (by have := hB2.size; omega) hg3 (fun k e => (hrow2.lt _ e).1), ?_, by simp; omega⟩
            have := HI.out.new hp (.inr (by rw [← HT.out, ← HR.out]; exact hz1))
            rw [← HT.out, ← HN.out] at this
            exact this
          case measure => rw [HX2.out]; simp only [sizeOfS, str_of, List.length_drop]; omega
    · have hpe : pos = l.length := by omega
      have ht0 : t.length = 0 := by omega
      have hs0 : s.size = 0 := by omega
      go_wp2
      go_ret
      subst hpe
      have e := HI.out.done
      rw [e] at hrow
      exact ⟨_, rfl, hrow, hB⟩
end Go.Proofs.YtcifakmlfndlaaaDoor
namespace Go.Proofs.YtcifakmlfndlaaaDoor
open Go.RowKit
end Go.Proofs.YtcifakmlfndlaaaDoor
namespace Go.Proofs.YtcifakmlfndlaaaDoor
open Go.RowKit
theorem row_str (w : World) (A : Option Addr) (l : Bs) (c : Nat) (h : RdB w A l) : (convert 59 9 (.slice A l.length c)).run Tryd.prog w = .ok (.string ⟨l.toArray⟩) w :=
  run_str (P := Tryd.prog) w _ 5 _ Tryd.underlying59 Tryd.underlying5 Tryd.underlying9 A l _ c rfl h
theorem rb_wrong : rb 65533 = wrongB := by decide
end Go.Proofs.YtcifakmlfndlaaaDoor
namespace Go.Proofs.YtcifakmlfndlaaaDoor
open Go.RowKit
theorem bnds_snoc (j : Nat) (cs : List Bs) (c : Bs) : bnds j (cs ++ [c]) = bnds j cs ++ [j + cs.flatten.length + c.length] := by
  induction cs generalizing j with
  | nil => simp [bnds]
  | cons d ds ih => simp [bnds, ih, Nat.add_assoc]
theorem bnds_last (j : Nat) (cs : List Bs) : (bnds j cs)[cs.length]? = some (j + cs.flatten.length) := by
  rw [bnds_ats, List.getElem?_append_right (by simp [ats_len])]; simp [ats_len]
/-- ref.Bounds. -/
theorem rBounds_calls (l : Bs) (hl : l.length ≤ 4294967296) (s : ByteArray) (hs : s = ⟨l.toArray⟩) (w : World) :
    Calls Tryd.prog 48 #[.string s] w fun e w' => ∃ v, e = .returned v ∧ Row w' w.heap.size 3 1 v (bnds 0 (cuts l)).length ((bnds 0 (cuts l)).map n64) ∧ Below w.heap.size w w' := by
  have HS := Lib.hid hs
  clear hs
  have hcl := cuts_len l
  have hcf := cuts_flat l
  obtain ⟨cs, hcs⟩ : ∃ cs, cs = cuts l := ⟨_, rfl⟩
  rw [← hcs] at hcl hcf ⊢
  have HCS := Lib.hid hcs
  have HCF := Lib.hid hcf
  clear hcs hcf
  go_enter Tryd.func48, Tryd.ntmps48
  go_wp2_with (go_at_call 24; refine (rCut_calls l hl s HS.out _).mono ?_; rintro e w1 ⟨v1, rfl, hrow1, hb1⟩; rw [← HCS.out] at hrow1; obtain ⟨A1, c1, rfl, _, _, hrd1, hA1⟩ := hrow1.rd)
  have hsz1 := hb1.size
  simp only [World.size_alloc] at hrow1 hA1 hb1 hsz1
  have HB1 : Below w.heap.size w w1 := ((Below.refl _ w).alloc (Nat.le_refl _) _).trans (hb1.mono (by omega))
  have hr0 : Row w1 w.heap.size 3 1 (.slice (some ⟨w.heap.size, 0, none⟩) 1 1) 1 [n64 0] := by
    have := Row.new w #[n64 0] w.heap.size 3 1 1 (Nat.le_refl _) (by decide) rfl
    exact this.at_ fun k hk => hb1.block k (by cases hk; dsimp only; omega)
  clear hrow1 hb1
  go_loopw [3, 5] (fun u3 u5 wr => ∃ k : Nat, u5 = .int .i64 k ∧ k ≤ cs.length ∧ Row wr w.heap.size 3 1 u3 (k + 1) ((bnds 0 (cs.take k)).map n64) ∧ Fr (fun j => j = w.heap.size) w1 wr ∧ (∀ j, u3.ownBlock = some j → j = w.heap.size ∨ w1.heap.size ≤ j)) (fun _ u5 _ => cs.length - (intOf u5).toNat)
  case atStart => exact ⟨0, rfl, Nat.zero_le _, hr0, Fr.refl _ _, fun j hj => by cases hj; exact .inl rfl⟩
  case round =>
    obtain ⟨k, rfl, hk, hrow, hfr, hob⟩ := hrel
    obtain ⟨A, c, rfl, hkc, hcm, hrd, hA⟩ := hrow.rd
    by_cases hgo : k < cs.length
    · obtain ⟨cc, hcc⟩ : ∃ cc, cs[k]? = some cc := ⟨_, List.getElem?_eq_getElem hgo⟩
      have hrd1' := hrd1.fr hfr (fun a ha _ => by have := (hA1 a ha).1; omega)
      obtain ⟨g1, o1, e1, hc1⟩ := hrd1' k (str cc) (by rw [List.getElem?_map, hcc]; rfl)
      obtain ⟨g2, o2, e2, hc2⟩ := hrd k (n64 (cs.take k).flatten.length) (by
        have := bnds_last 0 (cs.take k)
        rw [List.length_take, Nat.min_eq_left hk, Nat.zero_add] at this
        rw [List.getElem?_map, this]; rfl)
      subst e1
      subst e2
      have hfl : (cs.take k).flatten.length + cc.length ≤ l.length := by
        have h1 := congrArg List.length HCF.out
        have h2 : cs.take k ++ cs.drop k = cs := List.take_append_drop ..
        rw [← h2, List.flatten_append, List.length_append] at h1
        rw [show cs.drop k = cc :: cs.drop (k + 1) from by rw [List.drop_eq_getElem_cons hgo]; rw [List.getElem?_eq_getElem hgo] at hcc; cases hcc; rfl, List.flatten_cons, List.length_append] at h1
        omega
      obtain ⟨m, hm⟩ : ∃ m, m = (cs.take k).flatten.length := ⟨_, rfl⟩
      rw [← hm] at hc2 hfl
      obtain ⟨s2, hs2⟩ : ∃ s2 : ByteArray, s2 = ⟨cc.toArray⟩ := ⟨_, rfl⟩
      have hss : s2.size = cc.length := by rw [hs2, str_of]
      rw [show str cc = .string s2 from by rw [hs2]] at hc1
      have hsum : IntKind.i64.wrap ((m : Int) + (cc.length : Int)) = (m : Int) + (cc.length : Int) := IntWalk.i64_in _ (by omega)
      have HM := Lib.hid hm
      have HCC := Lib.hid hcc
      have HROW := Lib.hid hrow
      clear hm hcc hs2 hrd hrd1 hrow hr0
      have hfo : Tryd.prog.follows Departure.mixedOrders = true := by kernel_rfl
      have hc1d : wr.drew.cell? ⟨g1, o1 + k, none⟩ = some (.string s2) := hc1
      have hc2d : wr.drew.cell? ⟨g2, o2 + k, none⟩ = some (n64 m) := hc2
      have i1 : (k : Int) < (cs.length : Int) := by omega
      have i2 : (k : Int) < ((k + 1 : Nat) : Int) := by omega
      have i3 : (k : Int) < (k : Int) + 1 := by omega
      have hrowd : Row (wr.drew.alloc (.cells #[.int .i64 ((m : Int) + (cc.length : Int))] 3)) w.heap.size 3 1 (.slice (some ⟨g2, o2, none⟩) (k + 1) c) (k + 1) ((bnds 0 (cs.take k)).map n64) := (HROW.out.at_ (w' := wr.drew) (fun _ _ => rfl)).alloc _
      have HRD := Lib.hid hrowd
      clear hrowd
      have hszr := hfr.size
      have hq1 : ∀ W, (wr.alloc (.cells #[.int .i64 ((m : Int) + (cc.length : Int))] 3)).drew.grownBy W (Value.slice (some ⟨g2, o2, none⟩) (k + 1) c).ownBlock → W.cell? ⟨g1, o1 + k, none⟩ = some (.string s2) := fun W hg => by
        have h1 : w.heap.size + 1 ≤ g1 ∧ g1 < w1.heap.size := hA1 _ rfl
        have h2 := hob g2 rfl
        rw [World.cell?_of_block (w := wr) ((hg.block g1 (by simp; omega) (by simp [Value.ownBlock]; omega)).trans (Below.heap_alloc wr _ g1 (by omega)))]
        exact hc1
      have hq2 : ∀ W, Row W w.heap.size 3 1 (.slice (some ⟨g2, o2, none⟩) (k + 1) c) (k + 1) ((bnds 0 (cs.take k)).map n64) → W.cell? ⟨g2, o2 + k, none⟩ = some (n64 m) := fun W h => by
        obtain ⟨A9, c9, e9, _, _, hrd9, _⟩ := h.rd
        cases e9
        obtain ⟨b, o, e, hc⟩ := hrd9 k (n64 m) (by
          have := bnds_last 0 (cs.take k)
          rw [List.length_take, Nat.min_eq_left hk, Nat.zero_add] at this
          rw [List.getElem?_map, this, HM.out]; rfl)
        cases e; exact hc
      have HC1 := Lib.hid hq1
      have HC2 := Lib.hid hq2
      clear hq1 hq2
      go_wp2
      go_region_held3 (fun w' => w'.cell? ⟨g1, o1 + k, none⟩ = some (.string s2) ∧ w'.cell? ⟨g2, o2 + k, none⟩ = some (n64 m))
        (first | go_keep | exact ⟨HC1.out _ hg3, HC2.out _ hold3⟩)
        (first | (refine step_append_keep _ (by rfl) _ _ _ (by rfl) w.heap.size 3 1 8 _ Tryd.underlying53 Tryd.info_int rfl (by decide) (.slice (some ⟨g2, o2, none⟩) (k + 1) c) _ _ (by rfl) HRD.out _ 1 1 [.int .i64 ((m : Int) + (cc.length : Int))] (by rfl) rfl (Rd.new1 _ _ _) (by simp [Value.oneCell']) (by omega) (by simp only [maxLen]; omega) (by simp; omega) ?_; intro A3 c3 w3 hrow3 hg3 hb3 hold3))
      go_wp2
      go_roundw
      case rel =>
        have hall : (bnds 0 (cs.take (k + 1))).map n64 = (bnds 0 (cs.take k)).map n64 ++ [.int .i64 ((m : Int) + (cc.length : Int))] := by
          have e2 : cs.take (k + 1) = cs.take k ++ [cc] := by
            have := HCC.out
            rw [List.take_add_one, this]; rfl
          rw [e2, bnds_snoc, List.map_append, HM.out]; simp [n64]
        refine ⟨k + 1, by go_num, by omega, by rw [hall]; exact hrow3, ?_, ?_⟩
        · exact ((hfr.drewN 1).trans (Fr.alloc _ _) (fun _ _ e => e)).trans (Fr.of_grown hg3) (fun i hi e => by have := hob i e; omega)
        · intro j hj
          rcases hb3 with e | e
          · rw [e] at hj; exact hob j hj
          · rw [e] at hj; cases hj; right; simp; omega
      case measure => simp [intOf]; omega
    · have hke : k = cs.length := by omega
      subst hke
      go_wp2
      go_ret
      rw [List.take_length] at hrow
      have hln : (bnds 0 cs).length = cs.length + 1 := by rw [bnds_ats, List.length_append, List.length_map, ats_len]; rfl
      exact ⟨_, rfl, by rw [hln]; exact hrow, HB1.trans (hfr.below (by omega) (fun _ _ e => by omega))⟩
end Go.Proofs.YtcifakmlfndlaaaDoor
namespace Go.Proofs.YtcifakmlfndlaaaDoor
open Go.RowKit
theorem mem_flat {cs : List Bs} {c : Bs} (h : c ∈ cs) : c.length ≤ cs.flatten.length := by
  induction cs with
  | nil => cases h
  | cons d ds ih =>
    rw [List.flatten_cons, List.length_append]
    rcases List.mem_cons.1 h with e | e
    · rw [e]; omega
    · have := ih e; omega
theorem mem_cuts {l c : Bs} (h : c ∈ cuts l) : c.length ≤ l.length := by
  have := mem_flat h
  rwa [cuts_flat] at this
end Go.Proofs.YtcifakmlfndlaaaDoor
