import Derived.Test.YtfgjhfmgacopoaaDoorLp4
import Derived.Test.YtfgjhfmgacopoaaDoorKp
import Derived.Test.YtfgjhfmgacopoaaDoorSg1
import Derived.Test.YtfgjhfmgacopoaaDoorWr
namespace Go.Proofs.YtfgjhfmgacopoaaDoor
set_option linter.unusedVariables false
set_option linter.unusedSimpArgs false
open Go.RowKit Go.Shelf
/-! Chapter 18: law18's plain, and noBlanks. -/
theorem enc_flat_len (rs : List Nat) : (rs.flatMap enc).length ≤ 4 * rs.length := by
  induction rs with
  | nil => simp
  | cons r rs ih => rw [List.flatMap_cons, List.length_append, List.length_cons]; have := enc_len r; omega
theorem nbS_len (l : Bs) : (nbS l).length ≤ 4 * l.length := by
  unfold nbS
  have h1 := enc_flat_len ((runes l).filter nb)
  have h2 := List.length_filter_le nb (runes l)
  have h3 := runes_length l
  omega
theorem enc32 : enc 32 = [32] := by rw [enc_eq val32]; decide
theorem bl_back (s : ByteArray) : (⟨(bl s).toArray⟩ : ByteArray) = s := ba_eq s
theorem encode_list (r : Nat) : Utf8.encode (r : Int) = ⟨(enc r).toArray⟩ := by
  have h := bl_back (Utf8.encode (r : Int))
  unfold enc
  rw [h]
set_option maxHeartbeats 4000000 in
set_option maxRecDepth 100000 in
theorem noBlanks_calls (l : Bs) (hl : l.length ≤ 100000000) (s : ByteArray) (hs : s = ⟨l.toArray⟩) (w : World) :
    Calls Tryd.prog 17 #[.string s] w fun e w' => e = .returned (str (nbS l)) ∧ Below w.heap.size w w' := by
  have hsl : s.data.toList = l := by rw [hs]
  have hsz : s.size = l.length := by rw [hs]; simp [ByteArray.size]
  have HS := Lib.hid hsz
  have HL := Lib.hid hsl
  clear hs hsl hsz
  go_enter Tryd.func17, Tryd.ntmps17
  go_wp2
  go_loopw [3] (fun u3 wr => ∃ (pos : Nat) (xs : List Nat) (q : ByteArray), wr.heap[w.heap.size]? = some (.stringIter s pos) ∧ u3 = .string q ∧ Hid (q = ⟨((xs.filter nb).flatMap enc).toArray⟩) ∧ Below w.heap.size w wr ∧ xs ++ runes (l.drop pos) = runes l) (fun _ wr => s.size - wr.iterPos w.heap.size)
  case atStart => exact ⟨0, [], ⟨#[]⟩, by simp [World.iter_heap], rfl, Lib.hid rfl, (Below.refl _ _).alloc (Nat.le_refl _) _, by simp⟩
  case round =>
    obtain ⟨pos, xs, q, hit, rfl, HQ, hb, hx⟩ := hrel
    have hsw : w.heap.size < wr.heap.size := (Array.getElem?_eq_some_iff.1 hit).1
    have hlen : xs.length + (runes (l.drop pos)).length ≤ l.length := by rw [← List.length_append, hx]; exact runes_length l
    have HX := Lib.hid hx
    clear hx
    by_cases h1 : pos < s.size
    · have hnx : ∀ ty, (Instr.next (.pointer (some ⟨w.heap.size, 0, none⟩)) true ty).run Tryd.prog wr = _ := fun ty => Lib.run_next_any_at wr w.heap.size s pos ty hit h1
      have hit2 := Lib.iterAt_heap wr w.heap.size s pos (pos + (Utf8.decode s pos).2) hit
      have hb2 := Lib.below_iterAt hb (k := w.heap.size) (Nat.le_refl _) s (pos + (Utf8.decode s pos).2)
      have HD := Lib.hid (decode_dec s pos)
      have hp1 : 1 ≤ (Utf8.decode s pos).2 := by rw [decode_dec]; exact dec_pos _
      have hstep : Hid ((xs ++ [(Utf8.decode s pos).1]) ++ runes (l.drop (pos + (Utf8.decode s pos).2)) = runes l) := Lib.hid (by
        have := runes_step l pos xs (by have := HS.out; omega) HX.out
        rw [← HL.out, ← HD.out] at this
        rw [← HL.out]; exact this)
      have hpos2 : (wr.iterAt w.heap.size s (pos + (Utf8.decode s pos).2)).iterPos w.heap.size = pos + (Utf8.decode s pos).2 := by unfold World.iterPos; rw [hit2]
      have HPOS := Lib.hid hpos2
      have hpos1 : wr.iterPos w.heap.size = pos := by unfold World.iterPos; rw [hit]
      have HPOS1 := Lib.hid hpos1
      have HB2 := Lib.hid hb2
      have HIT2 := Lib.hid hit2
      obtain ⟨sE, hsE⟩ : ∃ sE, sE = Utf8.encode ((Utf8.decode s pos).1 : Int) := ⟨_, rfl⟩
      have hcvr : ∀ W, (convert 21 9 (.int .i32 ((Utf8.decode s pos).1 : Int))).run Tryd.prog W = .ok (.string sE) W := fun W => by rw [hsE, run_convert_int_string (P := Tryd.prog) W _ _ .i32 _ rfl Tryd.underlying9]
      obtain ⟨q2, hq2⟩ : ∃ q2 : ByteArray, q2 = ⟨((xs.filter nb).flatMap enc ++ enc (Utf8.decode s pos).1).toArray⟩ := ⟨_, rfl⟩
      have hadd : ∀ W, (Op.stringOp .add q sE).run Tryd.prog W = .ok (.string q2) W := fun W => by
        have h4 := enc_flat_len (xs.filter nb)
        have h5 := List.length_filter_le nb xs
        have h6 := enc_len (Utf8.decode s pos).1
        rw [hq2]
        exact add_str HQ.out (by rw [hsE, encode_list]) (by omega) W
      have HQ2 := Lib.hid hq2
      clear hsE hq2 hit2 hb2 hb hpos2 hpos1
      by_cases hn : (Utf8.decode s pos).1 = 32
      · have t1 : (((Utf8.decode s pos).1 : Int) != 32) = false := by simp; omega
        have hq3 : Hid (q = ⟨(((xs ++ [(Utf8.decode s pos).1]).filter nb).flatMap enc).toArray⟩) := Lib.hid (by
          rw [hn, List.filter_append, HQ.out]; simp [nb])
        clear hn
        go_wp2_with fail
        go_roundw
        case rel => exact ⟨_, xs ++ [(Utf8.decode s pos).1], q, HIT2.out, rfl, hq3, HB2.out, hstep.out⟩
        case measure => rw [HPOS.out, HPOS1.out]; omega
      · have t1 : (((Utf8.decode s pos).1 : Int) != 32) = true := by simp; omega
        have hq3 : Hid (q2 = ⟨(((xs ++ [(Utf8.decode s pos).1]).filter nb).flatMap enc).toArray⟩) := Lib.hid (by
          rw [HQ2.out, List.filter_append, List.flatMap_append]
          simp [nb, hn])
        clear hn
        go_wp2_with fail
        go_roundw
        case rel => exact ⟨_, xs ++ [(Utf8.decode s pos).1], q2, HIT2.out, rfl, hq3, HB2.out, hstep.out⟩
        case measure => rw [HPOS.out, HPOS1.out]; omega
    · have hnx : ∀ ty, (Instr.next (.pointer (some ⟨w.heap.size, 0, none⟩)) true ty).run Tryd.prog wr = _ := fun ty => Lib.run_next_end_at wr w.heap.size s pos ty hit h1
      have he : xs = runes l := by
        have := HX.out
        have h0 : l.drop pos = [] := List.drop_eq_nil_of_le (by have := HS.out; omega)
        rw [h0, runes_nil, List.append_nil] at this
        exact this
      have HE : Hid (q = ⟨(nbS l).toArray⟩) := Lib.hid (by rw [HQ.out, he]; rfl)
      clear he
      go_wp2_with fail
      go_ret
      exact ⟨by rw [HE.out]; rfl, hb⟩
set_option maxHeartbeats 4000000 in
set_option maxRecDepth 100000 in
theorem lawPlain_calls (l : Bs) (hl : l.length ≤ 100000000) (s : ByteArray) (hs : s = ⟨l.toArray⟩) (w : World) :
    Calls Tryd.prog 13 #[.string s] w fun e w' => e = .returned (str (pl l)) ∧ Below w.heap.size w w' := by
  have hsl : s.data.toList = l := by rw [hs]
  have hsz : s.size = l.length := by rw [hs]; simp [ByteArray.size]
  have HS := Lib.hid hsz
  have HL := Lib.hid hsl
  have HPL := Lib.hid (pl_flat l)
  clear hs hsl hsz
  go_enter Tryd.func13, Tryd.ntmps13
  go_wp2
  go_loopw [3] (fun u3 wr => ∃ (pos : Nat) (xs : List Nat) (q : ByteArray), wr.heap[w.heap.size]? = some (.stringIter s pos) ∧ u3 = .string q ∧ Hid (q = ⟨(xs.flatMap gP).toArray⟩) ∧ Below w.heap.size w wr ∧ xs ++ runes (l.drop pos) = runes l) (fun _ wr => s.size - wr.iterPos w.heap.size)
  case atStart => exact ⟨0, [], ⟨#[]⟩, by simp [World.iter_heap], rfl, Lib.hid rfl, (Below.refl _ _).alloc (Nat.le_refl _) _, by simp⟩
  case round =>
    obtain ⟨pos, xs, q, hit, rfl, HQ, hb, hx⟩ := hrel
    have hsw : w.heap.size < wr.heap.size := (Array.getElem?_eq_some_iff.1 hit).1
    have hlen : xs.length + (runes (l.drop pos)).length ≤ l.length := by rw [← List.length_append, hx]; exact runes_length l
    have HX := Lib.hid hx
    clear hx
    by_cases h1 : pos < s.size
    · have hnx : ∀ ty, (Instr.next (.pointer (some ⟨w.heap.size, 0, none⟩)) true ty).run Tryd.prog wr = _ := fun ty => Lib.run_next_any_at wr w.heap.size s pos ty hit h1
      have hit2 := Lib.iterAt_heap wr w.heap.size s pos (pos + (Utf8.decode s pos).2) hit
      have hb2 := Lib.below_iterAt hb (k := w.heap.size) (Nat.le_refl _) s (pos + (Utf8.decode s pos).2)
      have HD := Lib.hid (decode_dec s pos)
      have hp1 : 1 ≤ (Utf8.decode s pos).2 := by rw [decode_dec]; exact dec_pos _
      have hval : Utf8.valid ((Utf8.decode s pos).1 : Int) = true := by rw [decode_dec]; exact dec_val _
      have hr7 : (Utf8.decode s pos).1 ≤ 1114111 := by have := (valid_iff _).1 hval; omega
      have hstep : Hid ((xs ++ [(Utf8.decode s pos).1]) ++ runes (l.drop (pos + (Utf8.decode s pos).2)) = runes l) := Lib.hid (by
        have := runes_step l pos xs (by have := HS.out; omega) HX.out
        rw [← HL.out, ← HD.out] at this
        rw [← HL.out]; exact this)
      have HPOS := Lib.hid (show (wr.iterAt w.heap.size s (pos + (Utf8.decode s pos).2)).iterPos w.heap.size = pos + (Utf8.decode s pos).2 by unfold World.iterPos; rw [hit2])
      have HPOS1 := Lib.hid (show wr.iterPos w.heap.size = pos by unfold World.iterPos; rw [hit])
      have HB2 := Lib.hid hb2
      have HIT2 := Lib.hid hit2
      have h4 : (xs.flatMap gP).length ≤ 400000000 := by have := gP_fl xs; omega
      have h6 := enc_len (Utf8.decode s pos).1
      have hone : ∀ r : Nat, (xs ++ [r]).flatMap gP = xs.flatMap gP ++ gP r := fun r => by simp
      have HONE := Lib.hid (hone (Utf8.decode s pos).1)
      clear hit2 hb2 hb hval hone
      by_cases hw : (Utf8.decode s pos).1 = 9 ∨ (Utf8.decode s pos).1 = 10 ∨ (Utf8.decode s pos).1 = 13
      · have HG := Lib.hid (gP_white hw)
        obtain ⟨q2, hq2⟩ : ∃ q2 : ByteArray, q2 = ⟨(xs.flatMap gP ++ enc 32).toArray⟩ := ⟨_, rfl⟩
        have hadd : ∀ W, (Op.stringOp .add q ⟨#[32]⟩).run Tryd.prog W = .ok (.string q2) W := fun W => by
          rw [hq2]
          have h7 := enc_len 32
          exact add_str HQ.out (by rw [enc32]) (by omega) W
        have hq3 : Hid (q2 = ⟨((xs ++ [(Utf8.decode s pos).1]).flatMap gP).toArray⟩) := Lib.hid (by rw [hq2, HONE.out, HG.out])
        clear hq2
        rcases hw with hw | hw | hw
        · skip
          have t9 : (((Utf8.decode s pos).1 : Int) == 9) = true := by simp; omega
          clear hw
          go_wp2_with fail
          go_roundw
          case rel => exact ⟨_, xs ++ [(Utf8.decode s pos).1], q2, HIT2.out, rfl, hq3, HB2.out, hstep.out⟩
          case measure => rw [HPOS.out, HPOS1.out]; omega
        · skip
          have t9 : (((Utf8.decode s pos).1 : Int) == 9) = false := by simp; omega
          have t10 : (((Utf8.decode s pos).1 : Int) == 10) = true := by simp; omega
          clear hw
          go_wp2_with fail
          go_roundw
          case rel => exact ⟨_, xs ++ [(Utf8.decode s pos).1], q2, HIT2.out, rfl, hq3, HB2.out, hstep.out⟩
          case measure => rw [HPOS.out, HPOS1.out]; omega
        · skip
          have t9 : (((Utf8.decode s pos).1 : Int) == 9) = false := by simp; omega
          have t10 : (((Utf8.decode s pos).1 : Int) == 10) = false := by simp; omega
          have t13 : (((Utf8.decode s pos).1 : Int) == 13) = true := by simp; omega
          clear hw
          go_wp2_with fail
          go_roundw
          case rel => exact ⟨_, xs ++ [(Utf8.decode s pos).1], q2, HIT2.out, rfl, hq3, HB2.out, hstep.out⟩
          case measure => rw [HPOS.out, HPOS1.out]; omega
      · have t1 : (((Utf8.decode s pos).1 : Int) == 9) = false := by simp; omega
        have t2 : (((Utf8.decode s pos).1 : Int) == 10) = false := by simp; omega
        have t3 : (((Utf8.decode s pos).1 : Int) == 13) = false := by simp; omega
        have QC := Lib.hid (fun W => rControl_calls ((Utf8.decode s pos).1 : Int) W)
        by_cases hc : ctl ((Utf8.decode s pos).1 : Int) = true
        · have HG := Lib.hid (gP_ctl hw hc)
          have hq3 : Hid (q = ⟨((xs ++ [(Utf8.decode s pos).1]).flatMap gP).toArray⟩) := Lib.hid (by rw [HONE.out, HG.out, List.append_nil]; exact HQ.out)
          rw [hc] at QC
          clear hw hc
          go_wp2_with fail
          refine (QC.out _).mono ?_
          rintro e w5 ⟨rfl, b5⟩
          have z1 := Lib.hid ((b5.block _ (lt_of_heap HIT2.out)).trans HIT2.out)
          have z2 := Lib.hid (HB2.out.trans (b5.mono HB2.out.size))
          have z3 := Lib.hid (show w5.iterPos w.heap.size = pos + (Utf8.decode s pos).2 by unfold World.iterPos; rw [z1.out])
          clear b5
          go_wp2_with fail
          go_roundw
          case rel => exact ⟨_, xs ++ [(Utf8.decode s pos).1], q, z1.out, rfl, hq3, z2.out, hstep.out⟩
          case measure => rw [z3.out, HPOS1.out]; omega
        · have hc : ctl ((Utf8.decode s pos).1 : Int) = false := by simpa using hc
          have HG := Lib.hid (gP_own hw hc)
          obtain ⟨sE, hsE⟩ : ∃ sE, sE = Utf8.encode ((Utf8.decode s pos).1 : Int) := ⟨_, rfl⟩
          have hcvr : ∀ W, (convert 21 9 (.int .i32 ((Utf8.decode s pos).1 : Int))).run Tryd.prog W = .ok (.string sE) W := fun W => by rw [hsE, run_convert_int_string (P := Tryd.prog) W _ _ .i32 _ rfl Tryd.underlying9]
          obtain ⟨q2, hq2⟩ : ∃ q2 : ByteArray, q2 = ⟨(xs.flatMap gP ++ enc (Utf8.decode s pos).1).toArray⟩ := ⟨_, rfl⟩
          have hadd : ∀ W, (Op.stringOp .add q sE).run Tryd.prog W = .ok (.string q2) W := fun W => by
            rw [hq2]
            exact add_str HQ.out (by rw [hsE, encode_list]) (by omega) W
          have hq3 : Hid (q2 = ⟨((xs ++ [(Utf8.decode s pos).1]).flatMap gP).toArray⟩) := Lib.hid (by rw [hq2, HONE.out, HG.out])
          rw [hc] at QC
          clear hw hc hq2 hsE
          go_wp2_with fail
          refine (QC.out _).mono ?_
          rintro e w5 ⟨rfl, b5⟩
          have z1 := Lib.hid ((b5.block _ (lt_of_heap HIT2.out)).trans HIT2.out)
          have z2 := Lib.hid (HB2.out.trans (b5.mono HB2.out.size))
          have z3 := Lib.hid (show w5.iterPos w.heap.size = pos + (Utf8.decode s pos).2 by unfold World.iterPos; rw [z1.out])
          clear b5
          go_wp2_with fail
          go_roundw
          case rel => exact ⟨_, xs ++ [(Utf8.decode s pos).1], q2, z1.out, rfl, hq3, z2.out, hstep.out⟩
          case measure => rw [z3.out, HPOS1.out]; omega
    · have hnx : ∀ ty, (Instr.next (.pointer (some ⟨w.heap.size, 0, none⟩)) true ty).run Tryd.prog wr = _ := fun ty => Lib.run_next_end_at wr w.heap.size s pos ty hit h1
      have he : xs = runes l := by
        have := HX.out
        have h0 : l.drop pos = [] := List.drop_eq_nil_of_le (by have := HS.out; omega)
        rw [h0, runes_nil, List.append_nil] at this
        exact this
      have HE : Hid (q = ⟨(pl l).toArray⟩) := Lib.hid (by rw [HQ.out, he, HPL.out])
      clear he
      go_wp2_with fail
      go_ret
      exact ⟨by rw [HE.out]; rfl, hb⟩
end Go.Proofs.YtfgjhfmgacopoaaDoor
