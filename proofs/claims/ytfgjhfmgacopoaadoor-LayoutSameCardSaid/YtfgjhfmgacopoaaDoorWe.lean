import Derived.Test.YtfgjhfmgacopoaaDoorIn2
import Derived.RangeFuncNested
import Derived.RangeFuncBound
import Derived.RangeFuncCalls
import Derived.RangeFuncLeaves
import Derived.Shelf.Abstract
import Derived.Shelf.RegionOpen
import Derived.WalkKit
import Derived.OwnWalkIn
import Derived.TacticsInMore
import Derived.LoopNIn
import Derived.LoopIn
import Derived.Test.YtfgjhfmgacopoaaDoorWc
import Derived.Test.YtfgjhfmgacopoaaDoorWo
import Derived.Test.YtfgjhfmgacopoaaDoorSg1
import Derived.Maps.AppendAt
namespace Go.Proofs.YtfgjhfmgacopoaaDoor
open Go.RowKit Go.Shelf
attribute [local go_sem] Oper.semAt_some
/-- What a loop's body keeps of what Each's closure reads. -/
def KpE (Bs : Nat) (W W' : World) : Prop := KeepsWalks W W' ∧ W'.heap[Bs]? = W.heap[Bs]?
theorem KpE.t {Bs : Nat} {A B C : World} (h : KpE Bs A B) (k : KpE Bs B C) : KpE Bs A C := ⟨h.1.trans k.1, k.2.trans h.2⟩
theorem KpE.b {Bs : Nat} {w : World} (hn : Bs < w.heap.size) (W : World) (l : Nat) (o o' : Obj) (hl : w.heap.size ≤ l) (h : W.heap[l]? = some o) (_ : o.isCells = false) (hw : o.isWalk = false) : KpE Bs W (W.putObj l o') := by
  refine ⟨⟨?_, fun k o2 hk ho2 => ?_⟩, ?_⟩
  · exact (grownBy_putObj' W l o').size
  · rw [World.putObj_heap_other (by intro e; subst e; rw [h] at hk; cases hk; rw [hw] at ho2; cases ho2)]; exact hk
  · exact World.putObj_heap_other (by omega)
/-- One cluster that is told: where it begins, its bytes. -/
abbrev Cl (L : Nat) := { x : Nat × Bs // x.1 + x.2.length ≤ L }
def encs {L : Nat} (x : Cl L) : Array Value := #[n64 x.1.1, .string ⟨x.1.2.toArray⟩]
/-- What has been told at pos. -/
def Told (l : Bs) (pos frm : Nat) (pre : List (Nat × Bs)) : Prop :=
  (pos = 0 ∧ frm = 0 ∧ pre = []) ∨ (frm < pos ∧ pos ≤ l.length ∧ pre ++ ats frm (cl ((l.take pos).drop frm) (sg (l.drop pos))) = ats 0 (cuts l))
theorem Told.skip {l : Bs} {pos frm : Nat} {pre : List (Nat × Bs)} (h : Told l pos frm pre) (hp : pos < l.length) (hz : pos = 0 ∨ wof ((dec (l.drop pos)).1 : Int) = 0) :
    Told l (pos + (dec (l.drop pos)).2) frm pre := by
  have hne : l.drop pos ≠ [] := List.length_pos_iff.1 (by simp; omega)
  have h1 := dec_pos (l.drop pos)
  have h2 := dec_le hne
  rw [List.length_drop] at h2
  right
  rcases h with ⟨rfl, rfl, rfl⟩ | ⟨a, b, c⟩
  · refine ⟨by omega, by omega, ?_⟩
    rw [List.drop_zero] at hne ⊢
    rw [cuts_cons hne]
    simp
  · have hz' : wof ((dec (l.drop pos)).1 : Int) = 0 := by
      rcases hz with e | e
      · omega
      · exact e
    refine ⟨by omega, by omega, ?_⟩
    rw [← c, sg_cons hne, cl]
    have hw : w0 ((l.drop pos).take (dec (l.drop pos)).2) = true := by
      unfold w0
      rw [dec_takeGe hne (Nat.le_refl _), hz']; rfl
    rw [if_pos hw, List.drop_drop]
    congr 3
    have e1 : l.take (pos + (dec (l.drop pos)).2) = l.take pos ++ (l.drop pos).take (dec (l.drop pos)).2 := List.take_add
    rw [e1, List.drop_append_of_le_length (by rw [List.length_take]; omega)]
theorem Told.tell {l : Bs} {pos frm : Nat} {pre : List (Nat × Bs)} (h : Told l pos frm pre) (hp : pos < l.length) (h0 : 0 < pos) (hz : wof ((dec (l.drop pos)).1 : Int) ≠ 0) :
    pre.length < (cuts l).length ∧ (pre ++ [(frm, (l.take pos).drop frm)]) <+: ats 0 (cuts l) ∧ frm + ((l.take pos).drop frm).length ≤ l.length ∧ Told l (pos + (dec (l.drop pos)).2) pos (pre ++ [(frm, (l.take pos).drop frm)]) := by
  have hne : l.drop pos ≠ [] := List.length_pos_iff.1 (by simp; omega)
  have h1 := dec_pos (l.drop pos)
  have h2 := dec_le hne
  rw [List.length_drop] at h2
  rcases h with ⟨rfl, rfl, rfl⟩ | ⟨a, b, c⟩
  · omega
  · have hw : w0 ((l.drop pos).take (dec (l.drop pos)).2) = false := by
      unfold w0
      rw [dec_takeGe hne (Nat.le_refl _)]; simpa using hz
    rw [sg_cons hne, cl, if_neg (by rw [hw]; simp), List.drop_drop] at c
    have hfl : frm + ((l.take pos).drop frm).length = pos := by simp; omega
    rw [ats, hfl] at c
    have hlen := congrArg List.length c
    rw [ats_len, List.length_append, List.length_cons] at hlen
    refine ⟨by omega, ⟨_, by rw [← c, List.append_assoc, List.singleton_append]⟩, by omega, .inr ⟨by omega, by omega, ?_⟩⟩
    rw [← c]
    have e1 : (l.take (pos + (dec (l.drop pos)).2)).drop pos = (l.drop pos).take (dec (l.drop pos)).2 := by
      rw [List.drop_take]; congr 1; omega
    rw [e1]; simp
theorem Told.last {l : Bs} {pos frm : Nat} {pre : List (Nat × Bs)} (h : Told l pos frm pre) (hp : l.length ≤ pos) (h0 : 0 < l.length) :
    frm < l.length ∧ pre.length < (cuts l).length ∧ pre ++ [(frm, l.drop frm)] = ats 0 (cuts l) := by
  rcases h with ⟨rfl, rfl, rfl⟩ | ⟨a, b, c⟩
  · omega
  · have e : pos = l.length := by omega
    subst e
    rw [List.drop_length, sg_nil, cl, List.take_length, ats, ats] at c
    have hlen := congrArg List.length c
    rw [ats_len, List.length_append, List.length_singleton] at hlen
    exact ⟨a, by omega, c⟩
end Go.Proofs.YtfgjhfmgacopoaaDoor
namespace Go.Proofs.YtfgjhfmgacopoaaDoor
open Go.RowKit Go.Shelf
attribute [local go_sem] Oper.semAt_some
def val {L : Nat} (pre : List (Cl L)) : List (Nat × Bs) := pre.map (·.1)
def EachInv (l : Bs) (s : ByteArray) (Bx : Nat) (J : List (Cl l.length) → World → Prop) (W : World) (u3 : Value) (wr : World) : Prop :=
  ∃ (pos frm : Nat) (pre : List (Cl l.length)), u3 = .int .i64 frm ∧ wr.heap[W.heap.size]? = some (.stringIter s pos) ∧ Boxed wr Bx 9 (.string s) ∧ W.heap.size < wr.heap.size ∧ J pre wr ∧ Told l pos frm (val pre)
theorem grown_of_below {w w' : World} (h : Below w.heap.size w w') : w.grownBy w' none := ⟨h.os, h.tape, h.output, h.size, fun k hk _ => h.block k hk⟩
theorem grown_iterAt (w : World) (k : Nat) (s : ByteArray) (p : Nat) : w.grownBy (w.iterAt k s p) (some k) :=
  ⟨rfl, rfl, rfl, by rw [Lib.iterAt_size]; exact Nat.le_refl _, fun i _ hn => Lib.iterAt_other w k i s p (fun e => hn (by rw [e]))⟩
theorem abides_later {β : Type} {B : Nat} {J : β → World → Prop} (h : AbidesFrom B J) {x : β} {w w' : World} (hj : J x w) (hb : Below w.heap.size w w') : J x w' := h _ _ _ none hj (grown_of_below hb) (by simp)
theorem abides_iterAt {β : Type} {B : Nat} {J : β → World → Prop} (h : AbidesFrom B J) {x : β} {w : World} (hj : J x w) {k : Nat} {s : ByteArray} {p : Nat} (hk : B ≤ k) (hit : w.heap[k]? = some (.stringIter s p)) (p' : Nat) : J x (w.iterAt k s p') :=
  h _ _ _ (some k) hj (grown_iterAt w k s p') (fun r e => by cases e; exact ⟨hk, _, hit, rfl⟩)
theorem boxed_iterAt {w : World} {b : Nat} {t : TypeId} {v : Value} (h : Boxed w b t v) {k : Nat} {s0 : ByteArray} {p0 : Nat} (hit : w.heap[k]? = some (.stringIter s0 p0)) (s : ByteArray) (p : Nat) : Boxed (w.iterAt k s p) b t v :=
  h.kept (grown_iterAt w k s p) (by intro e; cases e; unfold Boxed at h; rw [hit] at h; cases h)
set_option maxHeartbeats 2000000 in
set_option maxRecDepth 100000 in
theorem each1_in (n : Nat) (hn : 1 ≤ n) (l : Bs) (hl : l.length ≤ 4294967296) (yl Bx : Nat) (J Jx : List (Cl l.length) → World → Prop) (W : World) (hJ : AbidesFrom W.heap.size J)
    (hY : ∀ pre x W1, J pre W1 → pre.length < (cuts l).length → YieldAt Fence.wide (n - 1) Tryd.prog yl (encs x) W1 fun e W' => (e = .returned (.bool true) ∧ J (pre ++ [x]) W' ∧ KpE Bx W1 W') ∨ (e = .returned (.bool false) ∧ Jx (pre ++ [x]) W'))
    (hBx : Boxed W Bx 9 (.string ⟨l.toArray⟩)) (h0 : J [] W) :
    CallsIn Fence.wide n Tryd.prog 55 #[.func (.yield yl) #[] #[], .pointer (some ⟨Bx, 0, none⟩)] W fun e W' => (∃ v, e = .returned v) ∧
      ((∃ xs : List (Cl l.length), val xs = ats 0 (cuts l) ∧ J xs W') ∨ (∃ pre : List (Cl l.length), val pre <+: ats 0 (cuts l) ∧ Jx pre W')) := by
  obtain ⟨s, hs⟩ : ∃ s : ByteArray, s = ⟨l.toArray⟩ := ⟨_, rfl⟩
  have hsz : s.size = l.length := by rw [hs]; simp [ByteArray.size]
  have hex : ∀ a b, s.extract a b = ⟨((l.take b).drop a).toArray⟩ := fun a b => by rw [hs]; exact extract_eq l a b
  have hdc : ∀ p, Utf8.decode s p = dec (l.drop p) := fun p => by rw [decode_dec, hs]
  rw [← hs] at hBx
  have HX := Lib.hid hex
  have HD := Lib.hid hdc
  have HSZ := Lib.hid hsz
  have HY := Lib.hid hY
  have HJ := Lib.hid hJ
  clear hex hdc hsz hY hJ hs
  have hc := hBx.cell
  have hBlt := hBx.lt
  refine callsIn_of_wp Tryd.func55 rfl trivial ?_
  simp only [Tryd.ntmps55, List.size_toArray, List.length_cons, List.length_nil, Nat.reduceAdd, Nat.reduceSub, Array.replicate_succ, Array.replicate_zero, List.push_toArray, List.append_toArray, List.nil_append, List.cons_append]
  gi_wp2
  gi_loopw [3] (fun u3 wr => EachInv l s Bx J W u3 wr) (fun _ wr => s.size - wr.iterPos W.heap.size)
  case atStart => exact ⟨0, 0, [], rfl, by simp [World.iter_heap], hBx.alloc _, lt_of_heap (o := .stringIter s 0) (by simp [World.iter_heap]), HJ.out _ _ _ none h0 (World.grownBy_alloc _ _ none) (by simp), .inl ⟨rfl, rfl, rfl⟩⟩
  case round =>
    obtain ⟨pos, frm, pre, rfl, hit, hbx, hsw, hJs, htold⟩ := hrel
    have HT := Lib.hid htold
    clear htold
    have hcb := hbx.cell
    by_cases h1 : pos < s.size
    · have hnx : ∀ ty, (Instr.next (.pointer (some ⟨W.heap.size, 0, none⟩)) true ty).run Tryd.prog wr = _ := fun ty => Lib.run_next_any_at wr W.heap.size s pos ty hit h1
      have hit2 := Lib.iterAt_heap wr W.heap.size s pos (pos + (Utf8.decode s pos).2) hit
      have hd := HD.out pos
      have hp1 : 1 ≤ (Utf8.decode s pos).2 := by rw [hd]; exact dec_pos _
      have hlp : pos < l.length := by rw [← HSZ.out]; exact h1
      have hJ2 := abides_iterAt HJ.out hJs (Nat.le_refl _) hit (pos + (Utf8.decode s pos).2)
      have hbx2 := boxed_iterAt hbx hit s (pos + (Utf8.decode s pos).2)
      have hsw2 : W.heap.size < (wr.iterAt W.heap.size s (pos + (Utf8.decode s pos).2)).heap.size := by rw [Lib.iterAt_size]; exact hsw
      have HDD := Lib.hid hd
      clear hd
      obtain ⟨w2, hw2⟩ : ∃ w2, w2 = wr.iterAt W.heap.size s (pos + (Utf8.decode s pos).2) := ⟨_, rfl⟩
      rw [← hw2] at hnx hit2 hJ2 hbx2 hsw2
      obtain ⟨rv, hrv⟩ : ∃ r : Int, r = ((Utf8.decode s pos).1 : Int) := ⟨_, rfl⟩
      rw [← hrv] at hnx
      obtain ⟨q, hq⟩ : ∃ q, q = pos + (Utf8.decode s pos).2 := ⟨_, rfl⟩
      rw [← hq] at hit2
      have hq1 : pos < q := by omega
      rw [HDD.out] at hq hrv
      have HQ := Lib.hid hq
      have HR := Lib.hid hrv
      clear hw2 hrv hq hp1
      by_cases hp0 : pos = 0
      · subst hp0
        simp only [show ((0 : Nat) : Int) = 0 from rfl] at hnx
        gi_wp2
        refine ⟨trivial, ?_⟩
        gi_wp2
        go_roundw
        case rel =>
          refine ⟨q, frm, pre, rfl, hit2, hbx2, hsw2, hJ2, ?_⟩
          rw [HQ.out]
          exact HT.out.skip hlp (.inl rfl)
        case measure => simp [iterPos_of hit2, iterPos_of hit]; omega
      · have hp0' : ((pos : Int) == 0) = false := by simp [hp0]
        by_cases hz : wof rv = 0
        · gi_wp2_with (refine ⟨trivial, ?_⟩; gi_at_call 56; refine (callsIn_wide.2 (Of_calls rv w2)).mono ?_; rintro e w3 ⟨rfl, hb3⟩; rw [hz])
          go_roundw
          case rel =>
            refine ⟨q, frm, pre, rfl, hb3.block _ hsw2 ▸ hit2, ?_, Nat.lt_of_lt_of_le hsw2 hb3.size, abides_later HJ.out hJ2 hb3, ?_⟩
            · exact hbx2.kept (grown_of_below hb3) (by simp)
            · rw [HQ.out]
              exact HT.out.skip hlp (.inr (by rw [← HR.out]; exact hz))
          case measure =>
            have hit3 : w3.heap[W.heap.size]? = some (.stringIter s q) := (hb3.block _ hsw2).trans hit2
            simp [iterPos_of hit3, iterPos_of hit]; omega
        · obtain ⟨z, hzz⟩ : ∃ z, z = wof rv := ⟨_, rfl⟩
          have hz' : (z == 0) = false := by rw [hzz]; simpa using hz
          obtain ⟨t1, t2, t3, t4⟩ := HT.out.tell hlp (by omega) (by rw [← HR.out]; exact hz)
          have hfl : frm + ((l.take pos).drop frm).length = pos ∨ True := .inr trivial
          have hfp : frm < pos := by
            rcases HT.out with ⟨e, _, _⟩ | ⟨e, _, _⟩
            · omega
            · exact e
          have i1 : (frm : Int) ≤ (pos : Int) := by omega
          have i2 : (pos : Int) ≤ (s.size : Int) := by omega
          have i3 : (0 : Int) ≤ (frm : Int) := by omega
          have HT1 := Lib.hid t1
          have HT2 := Lib.hid t2
          have HT3 := Lib.hid t3
          have HT4 := Lib.hid t4
          have HX1 := Lib.hid (HX.out frm pos)
          clear t1 t2 t3 t4 hfl
          gi_wp2_with (first
            | (refine ⟨trivial, ?_⟩; gi_at_call 56; refine (callsIn_wide.2 (Of_calls rv w2)).mono ?_; rintro e w3 ⟨rfl, hb3⟩; rw [← hzz]; have hbx3 := hbx2.kept (grown_of_below hb3) (by simp); have hcb3 := hbx3.cell; have hJ3 := abides_later HJ.out hJ2 hb3; obtain ⟨fn, tmps, assign, body, hy, hR⟩ := HY.out pre ⟨(frm, (l.take pos).drop frm), HT3.out⟩ w3 hJ3 (by simpa [val] using HT1.out); unfold encs at hy; dsimp only at hy; rw [← HX1.out] at hy))
          refine hR.mono ?_
          rintro e W3 (⟨rfl, hJ4, hk4⟩ | ⟨rfl, hJx4⟩)
          · gi_wp2
            have hit3 : w3.heap[W.heap.size]? = some (.stringIter s q) := (hb3.block _ hsw2).trans hit2
            have hit4 := hk4.1.same _ _ hit3 rfl
            go_roundw
            case rel =>
              refine ⟨q, pos, _, rfl, hit4, hk4.2.trans hbx3, Nat.lt_of_lt_of_le (lt_of_heap hit3) hk4.1.size, hJ4, ?_⟩
              rw [HQ.out]
              have := HT4.out
              unfold val at this ⊢
              simpa using this
            case measure => simp [iterPos_of hit4, iterPos_of hit]; omega
          · gi_wp2
            refine bodyPost_ret (results_none rfl _ _ _) rfl ?_
            refine ⟨⟨_, rfl⟩, .inr ⟨_, ?_, hJx4⟩⟩
            have := HT2.out
            unfold val at this ⊢
            simpa using this
    · have hnx : ∀ ty, (Instr.next (.pointer (some ⟨W.heap.size, 0, none⟩)) true ty).run Tryd.prog wr = _ := fun ty => Lib.run_next_end_at wr W.heap.size s pos ty hit h1
      by_cases hl0 : 0 < l.length
      · obtain ⟨t1, t2, t3⟩ := HT.out.last (by rw [← HSZ.out]; omega) hl0
        have i1 : (frm : Int) ≤ (s.size : Int) := by rw [HSZ.out]; omega
        have i3 : (frm : Int) < (s.size : Int) := by rw [HSZ.out]; omega
        have i2 : (0 : Int) ≤ (frm : Int) := by omega
        have t4 : frm + (l.drop frm).length ≤ l.length := by simp; omega
        obtain ⟨fn, tmps, assign, body, hy, hR⟩ := HY.out pre ⟨(frm, l.drop frm), t4⟩ wr hJs (by simpa [val] using t2)
        have hx := HX.out frm s.size
        rw [HSZ.out, List.take_length] at hx
        unfold encs at hy
        dsimp only at hy
        rw [← hx, ← HSZ.out] at hy
        have HT3 := Lib.hid t3
        clear t1 t2 t3 hx
        gi_wp2
        refine hR.mono ?_
        rintro e W3 (⟨rfl, hJ4, hk4⟩ | ⟨rfl, hJx4⟩)
        · gi_wp2
          go_end0
          refine ⟨⟨_, rfl⟩, .inl ⟨_, ?_, hJ4⟩⟩
          rw [← HT3.out]; simp [val]
        · gi_wp2
          go_end0
          refine ⟨⟨_, rfl⟩, .inr ⟨_, ?_, hJx4⟩⟩
          rw [← HT3.out]; simp [val]
      · have hl1 : l = [] := List.eq_nil_of_length_eq_zero (by omega)
        have hf : frm = 0 ∧ pre = [] := by
          rcases HT.out with ⟨_, e, e2⟩ | ⟨a, b, _⟩
          · exact ⟨e, by unfold val at e2; simpa using e2⟩
          · omega
        obtain ⟨rfl, rfl⟩ := hf
        have i3 : ¬ ((0 : Int) < (s.size : Int)) := by rw [HSZ.out]; omega
        have i4 : s.size = 0 := by rw [HSZ.out]; omega
        gi_wp2
        go_end0
        refine ⟨⟨_, rfl⟩, .inl ⟨[], ?_, hJs⟩⟩
        rw [hl1, cuts_nil]; rfl
end Go.Proofs.YtfgjhfmgacopoaaDoor
namespace Go.Proofs.YtfgjhfmgacopoaaDoor
open Go.RowKit Go.Shelf
attribute [local go_sem] Oper.semAt_some
/-- width.Each. -/
theorem Each_calls (s : ByteArray) (w : World) : Calls Tryd.prog 40 #[.string s] w fun e w' => e = .returned (.func (.func 55) #[] #[.pointer (some ⟨w.heap.size, 0, none⟩)]) ∧ w' = w.alloc (.cells #[.string s] 9) := by
  go_enter Tryd.func40, Tryd.ntmps40
  go_wp2
  go_ret
  exact ⟨rfl, rfl⟩
theorem each_stops (n : Nat) (hn : 1 ≤ n) (l : Bs) (hl : l.length ≤ 4294967296) (Bx : Nat) (w : World) (s : ByteArray) (hs : s = ⟨l.toArray⟩) (hb : Boxed w Bx 9 (.string s)) :
    SeqStopsK Fence.wide n Tryd.prog 55 #[.pointer (some ⟨Bx, 0, none⟩)] (encs (L := l.length)) (KpE Bx) (fun xs => val xs = ats 0 (cuts l)) (fun pre => val pre <+: ats 0 (cuts l)) (cuts l).length w := by
  intro yl J Jx W hW hJ _ hY h0
  subst hs
  exact each1_in n hn l hl yl Bx J Jx W hJ hY ((hW.block Bx hb.lt).trans hb) h0
theorem Row.of_owns {w : World} {B : Nat} {e : TypeId} {sz : Nat} {v : Value} {n : Nat} {xs : List Value} (h : w.ownsRow B e sz v n xs) : Row w B e sz v n xs := by
  refine ⟨h.1, ?_⟩
  rcases h.2 with ⟨rfl, hn⟩ | ⟨g, cap, cur, rfl, hb, hg, h1, h2, h3, h4⟩
  · exact .inl ⟨rfl, hn⟩
  · exact .inr ⟨g, 0, cap, cur, rfl, hb, hg, h1, h2, by omega, by rw [List.drop_zero]; exact h4⟩
theorem keepsWalks_of {W W' : World} (h : KeepsOthers W W') : KeepsWalks W W' := ⟨h.size, fun k o hk ho => h.same k o hk (Obj.not_cells_of_walk ho)⟩
/-- 'out = append(out, ..)' where the row's blocks lie from R on, and the box at B. -/
theorem appended2 {W w1 : World} {R B : Nat} {t e : TypeId} {size : Nat} {v v' : Value} {k m : Nat} {xs ys : List Value} {tmp : Obj}
    (hv : Boxed W B t v) (hte : t ≠ e) (hrow : W.ownsRow R e size v k xs) (hR : R ≤ W.heap.size)
    (hown' : w1.ownsRow R e size v' m ys) (hgrow : (W.alloc tmp).grownBy w1 v.ownBlock) :
    Boxed w1 B t v ∧ Boxed (w1.setCell ⟨B, 0, none⟩ v') B t v' ∧ (w1.setCell ⟨B, 0, none⟩ v').ownsRow R e size v' m ys ∧ KeepsOthers W (w1.setCell ⟨B, 0, none⟩ v') ∧
      (∀ n₀, n₀ ≤ R → n₀ ≤ B → Below n₀ W (w1.setCell ⟨B, 0, none⟩ v')) ∧ (∀ j, j < R → j ≠ B → (w1.setCell ⟨B, 0, none⟩ v').heap[j]? = W.heap[j]?) := by
  have hv1 : Boxed w1 B t v := (hv.alloc tmp).kept hgrow (hv.not_row hte hrow)
  have hrb : ∀ j, v.ownBlock = some j → R ≤ j := fun j ej => by
    rcases hrow.2 with ⟨rfl, _⟩ | ⟨g, cap, cur, rfl, hb, _, _⟩
    · simp [Value.ownBlock] at ej
    · obtain rfl : g = j := by simpa [Value.ownBlock] using ej
      exact hb
  refine ⟨hv1, hv1.set v', hown'.kept (grownBy_setCell' w1 B v') (.inr (hv1.not_row hte hown').symm), ?_, ?_, ?_⟩
  · refine ((KeepsOthers.alloc W tmp).trans (KeepsOthers.of_grownBy hgrow fun j o ej hj => ?_)).trans (KeepsOthers.setCell _ _ _)
    rcases (hrow.alloc tmp).2 with ⟨rfl, _⟩ | ⟨g, cap, cur, rfl, _, hgb, _⟩
    · simp [Value.ownBlock] at ej
    · obtain rfl : g = j := by simpa [Value.ownBlock] using ej
      rw [hgb] at hj; cases hj; rfl
  · intro n₀ h1 h2
    exact (((Below.refl n₀ W).alloc (Nat.le_trans h1 hR) tmp).grown hgrow (by simp; omega) fun j ej => Nat.le_trans h1 (hrb j ej)).setCell (p := ⟨B, 0, none⟩) h2 v'
  · intro j h1 h2
    rw [Below.heap_setCell _ _ _ _ h2, hgrow.block j (by simp; omega) (fun e => by have := hrb j e.symm; omega), Below.heap_alloc _ _ _ (by omega)]
theorem val_str {L : Nat} {ys : List (Cl L)} {k : Nat} {cs : List Bs} (h : val ys = ats k cs) : ys.map (fun x => str x.1.2) = cs.map str := by
  have h2 := congrArg (List.map (fun x : Nat × Bs => x.2)) h
  rw [ats_snd] at h2
  rw [← h2]; simp [val]
end Go.Proofs.YtfgjhfmgacopoaaDoor
