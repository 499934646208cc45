import Derived.Test.YtfegchonclhjjaaWe
namespace Go.Proofs.Ytfegchonclhjjaa
open Go.RowKit Go.Shelf
attribute [local go_sem] Oper.semAt_some
def val {L : Nat} (pre : List (Cl L)) : List (Nat × Bs) := pre.map (·.1)
def EachInv (l : Bs) (s : ByteArray) (Bx : Nat) (J : List (Cl l.length) → World → Prop) (W : World) (u3 : Value) (wr : World) : Prop :=
  ∃ (pos frm : Nat) (pre : List (Cl l.length)), u3 = .int .i64 frm ∧ wr.heap[W.heap.size]? = some (.stringIter s pos) ∧ Boxed wr Bx 9 (.string s) ∧ W.heap.size < wr.heap.size ∧ J pre wr ∧ Told l pos frm (val pre)
theorem grown_of_below {w w' : World} (h : Below w.heap.size w w') : w.grownBy w' none := ⟨h.os, h.tape, h.output, h.size, fun k hk _ => h.block k hk⟩
theorem grown_iterAt (w : World) (k : Nat) (s : ByteArray) (p : Nat) : w.grownBy (w.iterAt k s p) (some k) :=
  ⟨rfl, rfl, rfl, by rw [Lib.iterAt_size]; exact Nat.le_refl _, fun i _ hn => Lib.iterAt_other w k i s p (fun e => hn (by rw [e]))⟩
theorem abides_later {β : Type} {B : Nat} {J : β → World → Prop} (h : AbidesFrom B J) {x : β} {w w' : World} (hj : J x w) (hb : Below w.heap.size w w') : J x w' := h _ _ _ none hj (grown_of_below hb) (by simp)
theorem abides_iterAt {β : Type} {B : Nat} {J : β → World → Prop} (h : AbidesFrom B J) {x : β} {w : World} (hj : J x w) {k : Nat} {s : ByteArray} {p : Nat} (hk : B ≤ k) (hit : w.heap[k]? = some (.stringIter s p)) (p' : Nat) : J x (w.iterAt k s p') :=
  h _ _ _ (some k) hj (grown_iterAt w k s p') (fun r e => by cases e; exact ⟨hk, _, hit, rfl⟩)
theorem boxed_iterAt {w : World} {b : Nat} {t : TypeId} {v : Value} (h : Boxed w b t v) {k : Nat} {s0 : ByteArray} {p0 : Nat} (hit : w.heap[k]? = some (.stringIter s0 p0)) (s : ByteArray) (p : Nat) : Boxed (w.iterAt k s p) b t v :=
  h.kept (grown_iterAt w k s p) (by intro e; cases e; unfold Boxed at h; rw [hit] at h; cases h)
set_option maxHeartbeats 2000000 in
set_option maxRecDepth 100000 in
theorem each1_in (n : Nat) (hn : 1 ≤ n) (l : Bs) (hl : l.length ≤ 4294967296) (yl Bx : Nat) (J Jx : List (Cl l.length) → World → Prop) (W : World) (hJ : AbidesFrom W.heap.size J)
    (hY : ∀ pre x W1, J pre W1 → pre.length < (cuts l).length → YieldAt Fence.wide (n - 1) Try.prog yl (encs x) W1 fun e W' => (e = .returned (.bool true) ∧ J (pre ++ [x]) W' ∧ KpE Bx W1 W') ∨ (e = .returned (.bool false) ∧ Jx (pre ++ [x]) W'))
    (hBx : Boxed W Bx 9 (.string ⟨l.toArray⟩)) (h0 : J [] W) :
    CallsIn Fence.wide n Try.prog 36 #[.func (.yield yl) #[] #[], .pointer (some ⟨Bx, 0, none⟩)] W fun e W' => (∃ v, e = .returned v) ∧
      ((∃ xs : List (Cl l.length), val xs = ats 0 (cuts l) ∧ J xs W') ∨ (∃ pre : List (Cl l.length), val pre <+: ats 0 (cuts l) ∧ Jx pre W')) := by
  obtain ⟨s, hs⟩ : ∃ s : ByteArray, s = ⟨l.toArray⟩ := ⟨_, rfl⟩
  have hsz : s.size = l.length := by rw [hs]; simp [ByteArray.size]
  have hex : ∀ a b, s.extract a b = ⟨((l.take b).drop a).toArray⟩ := fun a b => by rw [hs]; exact extract_eq l a b
  have hdc : ∀ p, Utf8.decode s p = dec (l.drop p) := fun p => by rw [decode_dec, hs]
  rw [← hs] at hBx
  have HX := Lib.hid hex
  have HD := Lib.hid hdc
  have HSZ := Lib.hid hsz
  have HY := Lib.hid hY
  have HJ := Lib.hid hJ
  clear hex hdc hsz hY hJ hs
  have hc := hBx.cell
  have hBlt := hBx.lt
  refine callsIn_of_wp Try.func36 rfl trivial ?_
  simp only [Try.ntmps36, List.size_toArray, List.length_cons, List.length_nil, Nat.reduceAdd, Nat.reduceSub, Array.replicate_succ, Array.replicate_zero, List.push_toArray, List.append_toArray, List.nil_append, List.cons_append]
  gi_wp2
  gi_loopw [3] (fun u3 wr => EachInv l s Bx J W u3 wr) (fun _ wr => s.size - wr.iterPos W.heap.size)
  case atStart => exact ⟨0, 0, [], rfl, by simp [World.iter_heap], hBx.alloc _, lt_of_heap (o := .stringIter s 0) (by simp [World.iter_heap]), HJ.out _ _ _ none h0 (World.grownBy_alloc _ _ none) (by simp), .inl ⟨rfl, rfl, rfl⟩⟩
  case round =>
    obtain ⟨pos, frm, pre, rfl, hit, hbx, hsw, hJs, htold⟩ := hrel
    have HT := Lib.hid htold
    clear htold
    have hcb := hbx.cell
    by_cases h1 : pos < s.size
    · have hnx : ∀ ty, (Instr.next (.pointer (some ⟨W.heap.size, 0, none⟩)) true ty).run Try.prog wr = _ := fun ty => Lib.run_next_any_at wr W.heap.size s pos ty hit h1
      have hit2 := Lib.iterAt_heap wr W.heap.size s pos (pos + (Utf8.decode s pos).2) hit
      have hd := HD.out pos
      have hp1 : 1 ≤ (Utf8.decode s pos).2 := by rw [hd]; exact dec_pos _
      have hlp : pos < l.length := by rw [← HSZ.out]; exact h1
      have hJ2 := abides_iterAt HJ.out hJs (Nat.le_refl _) hit (pos + (Utf8.decode s pos).2)
      have hbx2 := boxed_iterAt hbx hit s (pos + (Utf8.decode s pos).2)
      have hsw2 : W.heap.size < (wr.iterAt W.heap.size s (pos + (Utf8.decode s pos).2)).heap.size := by rw [Lib.iterAt_size]; exact hsw
      have HDD := Lib.hid hd
      clear hd
      obtain ⟨w2, hw2⟩ : ∃ w2, w2 = wr.iterAt W.heap.size s (pos + (Utf8.decode s pos).2) := ⟨_, rfl⟩
      rw [← hw2] at hnx hit2 hJ2 hbx2 hsw2
      obtain ⟨rv, hrv⟩ : ∃ r : Int, r = ((Utf8.decode s pos).1 : Int) := ⟨_, rfl⟩
      rw [← hrv] at hnx
      obtain ⟨q, hq⟩ : ∃ q, q = pos + (Utf8.decode s pos).2 := ⟨_, rfl⟩
      rw [← hq] at hit2
      have hq1 : pos < q := by omega
      rw [HDD.out] at hq hrv
      have HQ := Lib.hid hq
      have HR := Lib.hid hrv
      clear hw2 hrv hq hp1
      by_cases hp0 : pos = 0
      · subst hp0
        simp only [show ((0 : Nat) : Int) = 0 from rfl] at hnx
        gi_wp2
        refine ⟨trivial, ?_⟩
        gi_wp2
        go_roundw
        case rel =>
          refine ⟨q, frm, pre, rfl, hit2, hbx2, hsw2, hJ2, ?_⟩
          rw [HQ.out]
          exact HT.out.skip hlp (.inl rfl)
        case measure => simp [iterPos_of hit2, iterPos_of hit]; omega
      · have hp0' : ((pos : Int) == 0) = false := by simp [hp0]
        by_cases hz : wof rv = 0
        · gi_wp2_with (refine ⟨trivial, ?_⟩; gi_at_call 11; refine (callsIn_wide.2 (Of_calls rv w2)).mono ?_; rintro e w3 ⟨rfl, hb3⟩; rw [hz])
          go_roundw
          case rel =>
            refine ⟨q, frm, pre, rfl, hb3.block _ hsw2 ▸ hit2, ?_, Nat.lt_of_lt_of_le hsw2 hb3.size, abides_later HJ.out hJ2 hb3, ?_⟩
            · exact hbx2.kept (grown_of_below hb3) (by simp)
            · rw [HQ.out]
              exact HT.out.skip hlp (.inr (by rw [← HR.out]; exact hz))
          case measure =>
            have hit3 : w3.heap[W.heap.size]? = some (.stringIter s q) := (hb3.block _ hsw2).trans hit2
            simp [iterPos_of hit3, iterPos_of hit]; omega
        · obtain ⟨z, hzz⟩ : ∃ z, z = wof rv := ⟨_, rfl⟩
          have hz' : (z == 0) = false := by rw [hzz]; simpa using hz
          obtain ⟨t1, t2, t3, t4⟩ := HT.out.tell hlp (by omega) (by rw [← HR.out]; exact hz)
          have hfl : frm + ((l.take pos).drop frm).length = pos ∨ True := .inr trivial
          have hfp : frm < pos := by
            rcases HT.out with ⟨e, _, _⟩ | ⟨e, _, _⟩
            · omega
            · exact e
          have i1 : (frm : Int) ≤ (pos : Int) := by omega
          have i2 : (pos : Int) ≤ (s.size : Int) := by omega
          have i3 : (0 : Int) ≤ (frm : Int) := by omega
          have HT1 := Lib.hid t1
          have HT2 := Lib.hid t2
          have HT3 := Lib.hid t3
          have HT4 := Lib.hid t4
          have HX1 := Lib.hid (HX.out frm pos)
          clear t1 t2 t3 t4 hfl
          gi_wp2_with (first
            | (refine ⟨trivial, ?_⟩; gi_at_call 11; refine (callsIn_wide.2 (Of_calls rv w2)).mono ?_; rintro e w3 ⟨rfl, hb3⟩; rw [← hzz]; have hbx3 := hbx2.kept (grown_of_below hb3) (by simp); have hcb3 := hbx3.cell; have hJ3 := abides_later HJ.out hJ2 hb3; obtain ⟨fn, tmps, assign, body, hy, hR⟩ := HY.out pre ⟨(frm, (l.take pos).drop frm), HT3.out⟩ w3 hJ3 (by simpa [val] using HT1.out); unfold encs at hy; dsimp only at hy; rw [← HX1.out] at hy))
          refine hR.mono ?_
          rintro e W3 (⟨rfl, hJ4, hk4⟩ | ⟨rfl, hJx4⟩)
          · gi_wp2
            have hit3 : w3.heap[W.heap.size]? = some (.stringIter s q) := (hb3.block _ hsw2).trans hit2
            have hit4 := hk4.1.same _ _ hit3 rfl
            go_roundw
            case rel =>
              refine ⟨q, pos, _, rfl, hit4, hk4.2.trans hbx3, Nat.lt_of_lt_of_le (lt_of_heap hit3) hk4.1.size, hJ4, ?_⟩
              rw [HQ.out]
              have := HT4.out
              unfold val at this ⊢
              simpa using this
            case measure => simp [iterPos_of hit4, iterPos_of hit]; omega
          · gi_wp2
            refine bodyPost_ret (results_none rfl _ _ _) rfl ?_
            refine ⟨⟨_, rfl⟩, .inr ⟨_, ?_, hJx4⟩⟩
            have := HT2.out
            unfold val at this ⊢
            simpa using this
    · have hnx : ∀ ty, (Instr.next (.pointer (some ⟨W.heap.size, 0, none⟩)) true ty).run Try.prog wr = _ := fun ty => Lib.run_next_end_at wr W.heap.size s pos ty hit h1
      by_cases hl0 : 0 < l.length
      · obtain ⟨t1, t2, t3⟩ := HT.out.last (by rw [← HSZ.out]; omega) hl0
        have i1 : (frm : Int) ≤ (s.size : Int) := by rw [HSZ.out]; omega
        have i3 : (frm : Int) < (s.size : Int) := by rw [HSZ.out]; omega
        have i2 : (0 : Int) ≤ (frm : Int) := by omega
        have t4 : frm + (l.drop frm).length ≤ l.length := by simp; omega
        obtain ⟨fn, tmps, assign, body, hy, hR⟩ := HY.out pre ⟨(frm, l.drop frm), t4⟩ wr hJs (by simpa [val] using t2)
        have hx := HX.out frm s.size
        rw [HSZ.out, List.take_length] at hx
        unfold encs at hy
        dsimp only at hy
        rw [← hx, ← HSZ.out] at hy
        have HT3 := Lib.hid t3
        clear t1 t2 t3 hx
        gi_wp2
        refine hR.mono ?_
        rintro e W3 (⟨rfl, hJ4, hk4⟩ | ⟨rfl, hJx4⟩)
        · gi_wp2
          go_end0
          refine ⟨⟨_, rfl⟩, .inl ⟨_, ?_, hJ4⟩⟩
          rw [← HT3.out]; simp [val]
        · gi_wp2
          go_end0
          refine ⟨⟨_, rfl⟩, .inr ⟨_, ?_, hJx4⟩⟩
          rw [← HT3.out]; simp [val]
      · have hl1 : l = [] := List.eq_nil_of_length_eq_zero (by omega)
        have hf : frm = 0 ∧ pre = [] := by
          rcases HT.out with ⟨_, e, e2⟩ | ⟨a, b, _⟩
          · exact ⟨e, by unfold val at e2; simpa using e2⟩
          · omega
        obtain ⟨rfl, rfl⟩ := hf
        have i3 : ¬ ((0 : Int) < (s.size : Int)) := by rw [HSZ.out]; omega
        have i4 : s.size = 0 := by rw [HSZ.out]; omega
        gi_wp2
        go_end0
        refine ⟨⟨_, rfl⟩, .inl ⟨[], ?_, hJs⟩⟩
        rw [hl1, cuts_nil]; rfl
end Go.Proofs.Ytfegchonclhjjaa
