import Derived.Test.YtfgjhfmgacopoaaDoorWo
import Derived.Test.YtfgjhfmgacopoaaDoorWc
import Derived.Test.YtfgjhfmgacopoaaDoorCv
import Derived.Test.YtfgjhfmgacopoaaDoorSr3
import Derived.Test.YtfgjhfmgacopoaaDoorWe
import Derived.Test.YtfgjhfmgacopoaaDoorIn2
import Derived.Test.YtfgjhfmgacopoaaDoorWf
import Derived.Test.YtfgjhfmgacopoaaDoorMem
import Derived.Deep.RegionHeld3
namespace Go.Proofs.YtfgjhfmgacopoaaDoor
open Go.RowKit
/-- A cell of a row of the call's own, and what stands behind a store into it. -/
theorem Row.set {w : World} {B : Nat} {e : TypeId} {A : Option Addr} {c n : Nat} {xs : List Value} (h : Row w B e 1 (.slice A n c) n xs) {k : Nat} (hk : k < n) :
    ∃ g off, A = some ⟨g, off, none⟩ ∧ B ≤ g ∧ g < w.heap.size ∧ w.cell? ⟨g, off + k, none⟩ = xs[k]? ∧ w.frozen? ⟨g, off + k, none⟩ = false ∧ ∀ u, Row (w.setCell ⟨g, off + k, none⟩ u) B e 1 (.slice A n c) n (xs.set k u) := by
  obtain ⟨hl, h2⟩ := h
  rcases h2 with ⟨hv, rfl⟩ | ⟨g, off, cap, cur, hv, hb, hg, hn, hm, hs, ht⟩
  · omega
  · cases hv
    refine ⟨g, off, rfl, hb, lt_of_heap hg, ?_, frozen_of_row w g _ cur e hg, fun u => ⟨by simp [hl], .inr ⟨g, off, c, _, rfl, hb, heap_setCell_same w g (off + k) cur e u hg, hn, hm, by simpa using hs, ?_⟩⟩⟩
    · rw [cell_of_row w g (off + k) cur e (0, 0) hg, ← ht, List.getElem?_take, if_pos (by omega), List.getElem?_drop]
      simp
    · rw [← ht, Array.toList_setIfInBounds, List.drop_set, if_neg (by omega), Nat.add_sub_cancel_left, List.take_set]
/-- Where ref.Cut stands. -/
def CutInv (l : Bs) (pos : Nat) (cs : List Bs) : Prop :=
  pos ≤ l.length ∧ ((cs = [] ∧ pos = 0) ∨ ∃ init cur, cs = init ++ [cur] ∧ init ++ cl cur (sg (l.drop pos)) = cuts l)
theorem CutInv.new {l : Bs} {pos : Nat} {cs : List Bs} (h : CutInv l pos cs) (hp : pos < l.length) (hz : cs = [] ∨ wof ((dec (l.drop pos)).1 : Int) ≠ 0) :
    CutInv l (pos + (dec (l.drop pos)).2) (cs ++ [(l.drop pos).take (dec (l.drop pos)).2]) := by
  have hne : l.drop pos ≠ [] := List.length_pos_iff.1 (by simp; omega)
  have h2 := dec_le hne
  rw [List.length_drop] at h2
  refine ⟨by omega, .inr ⟨cs, _, rfl, ?_⟩⟩
  rcases h.2 with ⟨rfl, rfl⟩ | ⟨init, cur, rfl, e⟩
  · rw [List.drop_zero] at hne ⊢
    rw [cuts_cons hne]; simp
  · have hw : w0 ((l.drop pos).take (dec (l.drop pos)).2) = false := by
      unfold w0
      rw [dec_takeGe hne (Nat.le_refl _)]
      rcases hz with hz | hz
      · simp at hz
      · simpa using hz
    rw [← e, sg_cons hne, cl, if_neg (by rw [hw]; simp), List.drop_drop]
    simp
theorem CutInv.more {l : Bs} {pos : Nat} {init : List Bs} {cur : Bs} (h : CutInv l pos (init ++ [cur])) (hp : pos < l.length) (hz : wof ((dec (l.drop pos)).1 : Int) = 0) :
    CutInv l (pos + (dec (l.drop pos)).2) (init ++ [cur ++ (l.drop pos).take (dec (l.drop pos)).2]) := by
  have hne : l.drop pos ≠ [] := List.length_pos_iff.1 (by simp; omega)
  have h2 := dec_le hne
  rw [List.length_drop] at h2
  refine ⟨by omega, .inr ⟨init, _, rfl, ?_⟩⟩
  rcases h.2 with ⟨e, _⟩ | ⟨init', cur', e1, e⟩
  · simp at e
  · obtain ⟨rfl, e2⟩ := List.append_inj' e1 rfl
    cases e2
    have hw : w0 ((l.drop pos).take (dec (l.drop pos)).2) = true := by
      unfold w0
      rw [dec_takeGe hne (Nat.le_refl _), hz]; rfl
    rw [← e, sg_cons hne, cl, if_pos hw, List.drop_drop]
theorem CutInv.cur_le {l : Bs} {pos : Nat} {init : List Bs} {cur : Bs} (h : CutInv l pos (init ++ [cur])) : cur.length ≤ l.length := by
  rcases h.2 with ⟨e, _⟩ | ⟨init', cur', e1, e⟩
  · simp at e
  · obtain ⟨rfl, e2⟩ := List.append_inj' e1 rfl
    cases e2
    have := congrArg (fun x => List.length (List.flatten x)) e
    rw [List.flatten_append, cl_flat, cuts_flat, List.length_append, List.length_append] at this
    omega
theorem CutInv.done {l : Bs} {cs : List Bs} (h : CutInv l l.length cs) : cs = cuts l := by
  rcases h.2 with ⟨rfl, e⟩ | ⟨init, cur, rfl, e⟩
  · have : l = [] := List.eq_nil_of_length_eq_zero e
    subst this; rw [cuts_nil]
  · rw [← e, List.drop_length, sg_nil]; rfl
end Go.Proofs.YtfgjhfmgacopoaaDoor
namespace Go.Proofs.YtfgjhfmgacopoaaDoor
open Go.RowKit
set_option maxRecDepth 100000 in
set_option maxHeartbeats 400000 in
theorem rCut_calls (l : Bs) (hl : l.length ≤ 4294967296) (s : ByteArray) (hs : s = ⟨l.toArray⟩) (w : World) :
    Calls Tryd.prog 15 #[.string s] w fun e w' => ∃ v, e = .returned v ∧ Row w' w.heap.size 9 1 v (cuts l).length ((cuts l).map str) ∧ Below w.heap.size w w' := by
  have hcl := cuts_len l
  have HS0 := Lib.hid hs
  clear hs
  go_enter Tryd.func15, Tryd.ntmps15
  go_wp2
  go_loopw [0, 3] (fun u0 u3 wr => ∃ (pos : Nat) (cs : List Bs), u0 = str (l.drop pos) ∧ Row wr w.heap.size 9 1 u3 cs.length (cs.map str) ∧ Below w.heap.size w wr ∧ CutInv l pos cs ∧ cs.length ≤ pos) (fun u0 _ _ => sizeOfS u0)
  case atStart => exact ⟨0, [], by rw [HS0.out, List.drop_zero], Row.nil _ _ _ _, Below.refl _ _, ⟨Nat.zero_le _, .inl ⟨rfl, rfl⟩⟩, Nat.le_refl _⟩
  case round =>
    obtain ⟨pos, cs, rfl, hrow, hB, hinv, hcp⟩ := hrel
    have hpl := hinv.1
    have HI := Lib.hid hinv
    clear hinv
    obtain ⟨t, ht⟩ : ∃ t, t = l.drop pos := ⟨_, rfl⟩
    have htl : t.length = l.length - pos := by rw [ht]; simp
    obtain ⟨s, hs⟩ : ∃ s : ByteArray, s = ⟨t.toArray⟩ := ⟨_, rfl⟩
    have hsz : s.size = t.length := by rw [hs, str_of]
    rw [show str (l.drop pos) = .string s from by rw [hs, ht]]
    have HT := Lib.hid ht
    have HS := Lib.hid hs
    clear ht
    by_cases hp : pos < l.length
    · have hne : t ≠ [] := List.length_pos_iff.1 (by omega)
      obtain ⟨cap, W, hcv, h1, h2, h3, h4⟩ := conv_bytes (P := Tryd.prog) wr _ _ _ t Tryd.underlying9 Tryd.underlying61 Tryd.underlying5 (by simp only [maxLen]; omega)
      rw [← hs] at hcv
      clear hs
      have hd1 := dec_pos t
      have hd2 := dec_le hne
      have hnx := nxt_ne hne
      have hex1 := extract_eq t 0 (dec t).2
      have hex2 := extract_eq t (dec t).2 s.size
      rw [← HS.out] at hex1 hex2
      rw [hsz, List.take_length] at hex2
      simp only [List.drop_zero] at hex1
      have HX1 := Lib.hid hex1
      have HX2 := Lib.hid hex2
      clear hex1 hex2
      obtain ⟨r, hr⟩ : ∃ r : Int, r = ((dec t).1 : Int) := ⟨_, rfl⟩
      obtain ⟨n, hn⟩ : ∃ n, n = (dec t).2 := ⟨_, rfl⟩
      rw [← hn] at hd1 hd2 HX1 HX2
      have HR := Lib.hid hr
      have HN := Lib.hid hn
      have i0 : (0 : Int) ≤ (n : Int) := by omega
      have i1 : (n : Int) ≤ (s.size : Int) := by omega
      have HTL := Lib.hid htl
      have htl2 : t.length ≤ 4294967296 := by omega
      clear htl hr hn
      go_wp2_with (go_at_call 29; refine (rNext_calls _ cap t W h3 htl2).mono ?_; rintro e w1 ⟨rfl, hb1⟩; rw [hnx, show i64 ((dec t).1 : Int) = .int .i64 r from by rw [HR.out], show i64 ((dec t).2 : Int) = .int .i64 n from by rw [HN.out]]; have B1 := hB.trans ((h4.trans (hb1.mono h4.size)).mono hB.size))
      have C1 : Below wr.heap.size wr w1 := h4.trans (hb1.mono h4.size)
      obtain ⟨A, c, rfl, hcn, hcm, hrd, hA⟩ := hrow.rd
      have hroww := hrow
      by_cases hz : wof r = 0 ∧ cs ≠ []
      · obtain ⟨hz1, hz2⟩ := hz
        have hlp := List.length_pos_iff.2 hz2
        obtain ⟨g, off, rfl, hgb, hgl, hcell, hfz, _⟩ := hrow.set (k := cs.length - 1) (by omega)
        obtain ⟨init, cur, rfl⟩ : ∃ init cur, cs = init ++ [cur] := ⟨cs.dropLast, cs.getLast hz2, (List.dropLast_concat_getLast hz2).symm⟩
        have hln : (init ++ [cur]).length = init.length + 1 := by simp
        simp only [hln, Nat.add_sub_cancel] at *
        have hcell' : wr.cell? ⟨g, off + init.length, none⟩ = some (str cur) := by rw [hcell]; simp
        have hc0 : (0 : Int) < ((init.length + 1 : Nat) : Int) := by omega
        have hadd : ∀ W, (Op.stringOp .add ⟨cur.toArray⟩ (s.extract 0 n)).run Tryd.prog W = .ok (.string (⟨cur.toArray⟩ ++ s.extract 0 n)) W := fun W => by
          rw [run_string_add_sum (P := Tryd.prog) W _ _ (by rw [HX1.out, str_of, str_of, List.length_take]; have := HI.out.cur_le; omega)]
        clear hcell
        go_wp2_with (go_at_call 30; refine (rOf_calls r w1).mono ?_; rintro e w2 ⟨rfl, hb2⟩; rw [hz1]; have C2 := C1.trans (hb2.mono C1.size); have hcell2 := (C2.cell (p := ⟨g, off + init.length, none⟩) hgl).trans hcell'; have hfz2 := (C2.frozen (p := ⟨g, off + init.length, none⟩) hgl).trans hfz)
        have hB2 := hB.trans (C2.mono hB.size)
        have j1 : (init.length : Int) < (init.length : Int) + 1 := by omega
        have j2 : (0 : Int) ≤ (init.length : Int) := by omega
        have j3 : (init.length : Int) + 1 - 1 = (init.length : Int) := by omega
        have j4 : IntKind.i64.wrap ((init.length : Int) + 1 - 1) = (init.length : Int) := by rw [j3]; exact IntWalk.i64_in _ (by omega)
        have j5 : IntKind.i64.wrap (init.length : Int) = (init.length : Int) := IntWalk.i64_in _ (by omega)
        have hfo : Tryd.prog.follows Departure.mixedOrders = true := by kernel_rfl
        have hcd : w2.drew.cell? ⟨g, off + init.length, none⟩ = some (str cur) := hcell2
        have hfd : w2.drew.frozen? ⟨g, off + init.length, none⟩ = false := hfz2
        go_region
        all_goals
          go_wp2
          go_roundw
          case rel =>
            have hst : (⟨cur.toArray⟩ : ByteArray) ++ s.extract 0 n = ⟨(cur ++ t.take n).toArray⟩ := by rw [HX1.out, ByteArray.mk_append_mk]
            have hrow2 := hrow.below C2 (Nat.le_refl _)
            obtain ⟨g', off', e', _, _, _, _, hset2⟩ := Row.set hrow2 (k := init.length) (by omega)
            cases e'
            refine ⟨pos + n, init ++ [cur ++ t.take n], by rw [HX2.out, HT.out, List.drop_drop], ?_, (hB2.setCell (p := ⟨g, off + init.length, none⟩) hgb _).drew, ?_, by simp; omega⟩
            · rw [hst]
              have := (hset2 (str (cur ++ t.take n))).at_ (w' := (w2.setCell ⟨g, off + init.length, none⟩ (str (cur ++ t.take n))).drew) (fun _ _ => rfl)
              simpa using this
            · have := HI.out.more hp (by rw [← HT.out, ← HR.out]; exact hz1)
              rw [← HT.out, ← HN.out] at this
              exact this
          case measure => rw [HX2.out]; simp only [sizeOfS, str_of, List.length_drop]; omega
      · by_cases hz1 : wof r = 0
        · have hz2 : cs = [] := Classical.byContradiction fun e => hz ⟨hz1, e⟩
          have h0 : decide ((0 : Int) < (cs.length : Int)) = false := by rw [hz2]; rfl
          have h0' : ¬ (0 : Int) < (cs.length : Int) := by rw [hz2]; simp
          have hc9 : cs.length ≤ 4294967296 := by omega
          have HZ := Lib.hid hz2
          clear hz2 hz
          go_wp2_with (first
            | (go_at_call 30; refine (rOf_calls r w1).mono ?_; rintro e w2 ⟨rfl, hb2⟩; rw [hz1]; have C2 := C1.trans (hb2.mono C1.size); have hrow2 := hrow.below C2 (Nat.le_refl _); have hB2 := hB.trans (C2.mono hB.size))
            | (at_builtin; refine wpList_append_row _ rfl _ _ 38 rfl w.heap.size 9 1 16 _ Tryd.underlying38 Tryd.info_str rfl (by decide) (.slice A cs.length c) _ _ rfl (hrow2.alloc _) _ 1 1 [.string (s.extract 0 n)] rfl rfl (Rd.new1 _ _ _) (by simp [Value.oneCell']) (by omega) (by simp only [maxLen]; omega) (by simp; have := hB2.size; omega) ?_; intro A3 c3 w3 hrow3 hg3 hb3))
          go_roundw
          case rel =>
            rw [HX1.out] at hrow3
            refine ⟨pos + n, cs ++ [t.take n], by rw [HX2.out, HT.out, List.drop_drop], by simpa using hrow3, app_below hB2 (by have := hB2.size; omega) hg3 (fun k e => (hrow2.lt _ e).1), ?_, by simp; omega⟩
            have := HI.out.new hp (.inl HZ.out)
            rw [← HT.out, ← HN.out] at this
            exact this
          case measure => rw [HX2.out]; simp only [sizeOfS, str_of, List.length_drop]; omega
        · have hz3 : (wof r == 0) = false := by simpa using hz1
          obtain ⟨z, hzz⟩ : ∃ z, z = wof r := ⟨_, rfl⟩
          rw [← hzz] at hz3
          have HZ := Lib.hid hzz
          clear hzz hz
          go_wp2_with (first
            | (go_at_call 30; refine (rOf_calls r w1).mono ?_; rintro e w2 ⟨rfl, hb2⟩; rw [← HZ.out]; have C2 := C1.trans (hb2.mono C1.size); have hrow2 := hrow.below C2 (Nat.le_refl _); have hB2 := hB.trans (C2.mono hB.size))
            | (at_builtin; refine wpList_append_row _ rfl _ _ 38 rfl w.heap.size 9 1 16 _ Tryd.underlying38 Tryd.info_str rfl (by decide) (.slice A cs.length c) _ _ rfl (hrow2.alloc _) _ 1 1 [.string (s.extract 0 n)] rfl rfl (Rd.new1 _ _ _) (by simp [Value.oneCell']) (by omega) (by simp only [maxLen]; omega) (by simp; have := hB2.size; omega) ?_; intro A3 c3 w3 hrow3 hg3 hb3))
          go_roundw
          case rel =>
            rw [HX1.out] at hrow3
            refine ⟨pos + n, cs ++ [t.take n], by rw [HX2.out, HT.out, List.drop_drop], by simpa using hrow3, app_below hB2 (by have := hB2.size; omega) hg3 (fun k e => (hrow2.lt _ e).1), ?_, by simp; omega⟩
            have := HI.out.new hp (.inr (by rw [← HT.out, ← HR.out]; exact hz1))
            rw [← HT.out, ← HN.out] at this
            exact this
          case measure => rw [HX2.out]; simp only [sizeOfS, str_of, List.length_drop]; omega
    · have hpe : pos = l.length := by omega
      have ht0 : t.length = 0 := by omega
      have hs0 : s.size = 0 := by omega
      go_wp2
      go_ret
      subst hpe
      have e := HI.out.done
      rw [e] at hrow
      exact ⟨_, rfl, hrow, hB⟩
end Go.Proofs.YtfgjhfmgacopoaaDoor
namespace Go.Proofs.YtfgjhfmgacopoaaDoor
open Go.RowKit
/-- ref.Wide. -/
theorem rWide_calls (c : Bs) (hc : c.length ≤ 4294967296) (s : ByteArray) (hs : s = ⟨c.toArray⟩) (w : World) :
    Calls Tryd.prog 28 #[.string s] w fun e w' => e = .returned (.int .i64 (wid c)) ∧ Below w.heap.size w w' := by
  by_cases h0 : c = []
  · subst h0
    subst hs
    go_enter Tryd.func28, Tryd.ntmps28
    go_wp2
    go_ret
    exact ⟨rfl, Below.refl _ _⟩
  · have hnx := nxt_ne h0
    have hse : s.toList.isEmpty = false := str_ne hs h0
    obtain ⟨cap, W, hcv, h1, h2, h3, h4⟩ := conv_bytes (P := Tryd.prog) w _ _ _ c Tryd.underlying9 Tryd.underlying61 Tryd.underlying5 (by simp only [maxLen]; omega)
    rw [← hs] at hcv
    clear hs
    obtain ⟨r, hr⟩ : ∃ r : Int, r = ((dec c).1 : Int) := ⟨_, rfl⟩
    have HR := Lib.hid hr
    have hwid : wid c = max (wof r) 1 := by unfold wid; rw [if_neg h0, hr]
    have HW := Lib.hid hwid
    have hwc := wof_cases r
    clear hwid hr
    go_enter Tryd.func28, Tryd.ntmps28
    go_wp2_with fail
    refine (rNext_calls _ cap c W h3 hc).mono ?_
    rintro e w1 ⟨rfl, hb1⟩
    rw [hnx, show i64 ((dec c).1 : Int) = .int .i64 r from by rw [HR.out]]
    have B1 := h4.trans (hb1.mono h4.size)
    go_wp2_with fail
    refine (rOf_calls r w1).mono ?_
    rintro e w2 ⟨rfl, hb2⟩
    have B2 := B1.trans (hb2.mono B1.size)
    rcases hwc with e | e | e
    all_goals
      rw [e]
      go_wp2
      go_ret
      exact ⟨by rw [HW.out, e]; rfl, B2⟩
end Go.Proofs.YtfgjhfmgacopoaaDoor
namespace Go.Proofs.YtfgjhfmgacopoaaDoor
open Go.RowKit
theorem row_str (w : World) (A : Option Addr) (l : Bs) (c : Nat) (h : RdB w A l) : (convert 61 9 (.slice A l.length c)).run Tryd.prog w = .ok (.string ⟨l.toArray⟩) w :=
  run_str (P := Tryd.prog) w _ 5 _ Tryd.underlying61 Tryd.underlying5 Tryd.underlying9 A l _ c rfl h
theorem rb_wrong : rb 65533 = wrongB := by decide
/-- ref.Show. -/
theorem rShow_calls (c : Bs) (hc : c.length ≤ 4294967296) (s : ByteArray) (hs : s = ⟨c.toArray⟩) (w : World) :
    Calls Tryd.prog 16 #[.string s] w fun e w' => e = .returned (.string ⟨(shown c).toArray⟩) ∧ Below w.heap.size w w' := by
  by_cases h0 : c = []
  · subst h0
    subst hs
    go_enter Tryd.func16, Tryd.ntmps16
    go_wp2
    go_ret
    exact ⟨rfl, Below.refl _ _⟩
  · have hnx := nxt_ne h0
    have hse : s.toList.isEmpty = false := str_ne hs h0
    have hcv : ∀ w, ∃ cap W, (convert 9 61 (.string s)).run Tryd.prog w = .ok (.slice (some ⟨w.heap.size, 0, none⟩) c.length cap) W ∧ c.length ≤ cap ∧ RdB W (some ⟨w.heap.size, 0, none⟩) c ∧ Below w.heap.size w W := fun w => by
      obtain ⟨cap, W, a, b, _, d, e⟩ := conv_bytes (P := Tryd.prog) w _ _ _ c Tryd.underlying9 Tryd.underlying61 Tryd.underlying5 (by simp only [maxLen]; omega)
      exact ⟨cap, W, by rw [hs]; exact a, b, d, e⟩
    have HCV := Lib.hid hcv
    clear hs hcv
    obtain ⟨r, hr⟩ : ∃ r : Int, r = ((dec c).1 : Int) := ⟨_, rfl⟩
    have HR := Lib.hid hr
    have hsh : shown c = if (wof r == 0 || ctl r) = true then wrongB else clean c := by unfold shown bad; rw [if_neg h0, hr]
    have HSH := Lib.hid hsh
    clear hsh hr
    obtain ⟨cap, W, hcv1, h1, h3, h4⟩ := HCV.out w
    go_enter Tryd.func16, Tryd.ntmps16
    go_wp2_with fail
    refine (rNext_calls _ cap c W h3 hc).mono ?_
    rintro e w1 ⟨rfl, hb1⟩
    rw [hnx, show i64 ((dec c).1 : Int) = .int .i64 r from by rw [HR.out]]
    have B1 := h4.trans (hb1.mono h4.size)
    clear hcv1
    go_wp2_with fail
    refine (rOf_calls r w1).mono ?_
    rintro e w2 ⟨rfl, hb2⟩
    have B2 := B1.trans (hb2.mono B1.size)
    by_cases hz : wof r = 0
    · rw [hz]
      go_wp2_with (go_at_call 31; refine (Bytes_calls 65533 w2).mono ?_; rintro e w4 ⟨v4, rfl, hrow4, hb4⟩; rw [rb_wrong] at hrow4; obtain ⟨A4, c4, rfl, _, _, hrd4, _⟩ := hrow4.rd; have hcs := row_str w4 A4 wrongB c4 hrd4)
      go_ret
      refine ⟨?_, B2.trans (hb4.mono B2.size)⟩
      rw [HSH.out, if_pos (by rw [hz]; rfl)]
      rfl
    · have hz' : (wof r == 0) = false := by simpa using hz
      have HZ := Lib.hid hz'
      obtain ⟨z, hzz⟩ : ∃ z, z = wof r := ⟨_, rfl⟩
      rw [← hzz] at hz' ⊢
      clear hz
      have HZZ := Lib.hid hzz
      clear hzz
      by_cases hcl : ctl r = true
      · go_wp2_with (first
          | (go_at_call 27; refine (rControl_calls r w2).mono ?_; rintro e w3 ⟨rfl, hb3⟩; rw [hcl]; have B3 := B2.trans (hb3.mono B2.size))
          | (go_at_call 31; refine (Bytes_calls 65533 w3).mono ?_; rintro e w4 ⟨v4, rfl, hrow4, hb4⟩; rw [rb_wrong] at hrow4; obtain ⟨A4, c4, rfl, _, _, hrd4, _⟩ := hrow4.rd; have hcs := row_str w4 A4 wrongB c4 hrd4))
        go_ret
        refine ⟨?_, B3.trans (hb4.mono B3.size)⟩
        rw [HSH.out, if_pos (by rw [hcl, Bool.or_true])]
        rfl
      · have hcl' := Bool.eq_false_iff.2 hcl
        clear hcl
        go_wp2_with (first
          | (go_at_call 27; refine (rControl_calls r w2).mono ?_; rintro e w3 ⟨rfl, hb3⟩; rw [hcl']; have B3 := B2.trans (hb3.mono B2.size); obtain ⟨cap4, W4, hcv4, hlc4, hrd4, hb4⟩ := HCV.out w3)
          | (go_at_call 32; refine (rClean_calls _ cap4 c W4 hrd4 hlc4 hc).mono ?_; rintro e w5 ⟨v5, rfl, hrow5, hb5⟩; obtain ⟨A5, c5, rfl, _, _, hrd5, _⟩ := hrow5.rd; have hcs := row_str w5 A5 (clean c) c5 hrd5))
        go_ret
        refine ⟨?_, (B3.trans (hb4.mono B3.size)).trans (hb5.mono (Nat.le_trans B3.size hb4.size))⟩
        rw [HSH.out, if_neg (by rw [HZ.out, hcl']; simp)]
        rfl
end Go.Proofs.YtfgjhfmgacopoaaDoor
namespace Go.Proofs.YtfgjhfmgacopoaaDoor
open Go.RowKit
theorem bnds_snoc (j : Nat) (cs : List Bs) (c : Bs) : bnds j (cs ++ [c]) = bnds j cs ++ [j + cs.flatten.length + c.length] := by
  induction cs generalizing j with
  | nil => simp [bnds]
  | cons d ds ih => simp [bnds, ih, Nat.add_assoc]
theorem bnds_last (j : Nat) (cs : List Bs) : (bnds j cs)[cs.length]? = some (j + cs.flatten.length) := by
  rw [bnds_ats, List.getElem?_append_right (by simp [ats_len])]; simp [ats_len]
end Go.Proofs.YtfgjhfmgacopoaaDoor
namespace Go.Proofs.YtfgjhfmgacopoaaDoor
open Go.RowKit
theorem mem_flat {cs : List Bs} {c : Bs} (h : c ∈ cs) : c.length ≤ cs.flatten.length := by
  induction cs with
  | nil => cases h
  | cons d ds ih =>
    rw [List.flatten_cons, List.length_append]
    rcases List.mem_cons.1 h with e | e
    · rw [e]; omega
    · have := ih e; omega
theorem mem_cuts {l c : Bs} (h : c ∈ cuts l) : c.length ≤ l.length := by
  have := mem_flat h
  rwa [cuts_flat] at this
/-- ref.Sum. -/
theorem rSum_calls (l : Bs) (hl : l.length ≤ 4294967296) (s : ByteArray) (hs : s = ⟨l.toArray⟩) (w : World) :
    Calls Tryd.prog 14 #[.string s] w fun e w' => e = .returned (.int .i64 (wsum (cuts l))) ∧ Below w.heap.size w w' := by
  have HS := Lib.hid hs
  clear hs
  have hcl := cuts_len l
  have hcm : ∀ c ∈ cuts l, c.length ≤ l.length := fun c hc => mem_cuts hc
  obtain ⟨cs, hcs⟩ : ∃ cs, cs = cuts l := ⟨_, rfl⟩
  rw [← hcs] at hcl hcm ⊢
  have HCS := Lib.hid hcs
  have HCM := Lib.hid hcm
  clear hcs hcm
  go_enter Tryd.func14, Tryd.ntmps14
  go_wp2_with (go_at_call 15; refine (rCut_calls l hl s HS.out _).mono ?_; rintro e w1 ⟨v1, rfl, hrow1, hb1⟩; rw [← HCS.out] at hrow1; obtain ⟨A1, c1, rfl, _, _, hrd1, hA1⟩ := hrow1.rd)
  clear hrow1
  have HRD := Lib.hid hrd1
  clear hrd1
  go_loopw [3, 5] (fun u3 u5 wr => ∃ k : Nat, u5 = .int .i64 k ∧ k ≤ cs.length ∧ u3 = .int .i64 (wsum (cs.take k)) ∧ Below w1.heap.size w1 wr) (fun _ u5 _ => cs.length - (intOf u5).toNat)
  case atStart => exact ⟨0, rfl, Nat.zero_le _, rfl, Below.refl _ _⟩
  case round =>
    obtain ⟨k, rfl, hk, rfl, hbr⟩ := hrel
    by_cases hgo : k < cs.length
    · obtain ⟨cc, hcc⟩ : ∃ cc, cs[k]? = some cc := ⟨_, List.getElem?_eq_getElem hgo⟩
      obtain ⟨b, o, rfl, hc⟩ := (HRD.out.later hbr) k (str cc) (by rw [List.getElem?_map, hcc]; rfl)
      have hmem : cc ∈ cs := List.mem_of_getElem? hcc
      have hccl := HCM.out cc hmem
      have hsum := wsum_le (cs.take k)
      rw [List.length_take] at hsum
      have hwc := wid_le cc
      have hnext : wsum (cs.take (k + 1)) = wsum (cs.take k) + wid cc := by rw [List.take_add_one, hcc, ← wsum_snoc]; rfl
      have HN := Lib.hid hnext
      have HCC := Lib.hid hcc
      clear hnext hcc hmem
      obtain ⟨m, hm⟩ : ∃ m, m = wsum (cs.take k) := ⟨_, rfl⟩
      obtain ⟨d, hd⟩ : ∃ d, d = wid cc := ⟨_, rfl⟩
      rw [← hm] at hsum ⊢
      rw [← hd] at hwc
      have HM := Lib.hid hm
      have HD := Lib.hid hd
      clear hm hd
      have i1 : (k : Int) < (cs.length : Int) := by omega
      have hB2 : ∀ w2, Below wr.heap.size wr w2 → Below w1.heap.size w1 w2 := fun w2 h => hbr.trans (h.mono hbr.size)
      have hB2 := Lib.hid hB2
      obtain ⟨s2, hs2⟩ : ∃ s2 : ByteArray, s2 = ⟨cc.toArray⟩ := ⟨_, rfl⟩
      rw [show str cc = .string s2 from by rw [hs2]] at hc
      have HS2 := Lib.hid hs2
      clear hs2
      go_wp2_with (go_at_call 28; refine (rWide_calls cc (by omega) s2 HS2.out wr).mono ?_; rintro e w2 ⟨rfl, hb2⟩; rw [← HD.out])
      go_roundw
      case rel => exact ⟨k + 1, by go_num, by omega, by rw [HN.out, HM.out, HD.out], hB2.out _ hb2⟩
      case measure => simp [intOf]; omega
    · have hke : k = cs.length := by omega
      subst hke
      rw [List.take_length]
      go_wp2
      go_ret
      exact ⟨rfl, hb1.trans (hbr.mono hb1.size)⟩
end Go.Proofs.YtfgjhfmgacopoaaDoor
