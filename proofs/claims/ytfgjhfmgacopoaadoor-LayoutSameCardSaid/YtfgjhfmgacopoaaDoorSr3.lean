import Derived.Test.YtfgjhfmgacopoaaDoorSr2
import Derived.Test.YtfgjhfmgacopoaaDoorKa
import Derived.Deep.RegionHeld3
import Derived.Test.YtfgjhfmgacopoaaDoorPu
namespace Go.Proofs.YtfgjhfmgacopoaaDoor
open Go.RowKit
theorem Tryd.info_int : (Tryd.prog.info? 3).map (fun i => (i.zero, i.size, i.bytes)) = some (some (.int .i64 0), 1, 8) := by kernel_rfl
theorem runes_step' {lk : Bs} (h : lk ≠ []) (xs l' : List Nat) (hx : xs ++ runes lk = l') : (xs ++ [(dec lk).1]) ++ runes (lk.drop (dec lk).2) = l' := by
  rw [← hx, runes_cons h]; simp
set_option maxHeartbeats 800000 in
set_option maxRecDepth 100000 in
/-- ref.Runes. -/
theorem rRunes_calls (A : Option Addr) (c : Nat) (l : Bs) (w : World) (hr : RdB w A l) (hlc : l.length ≤ c) (hl : l.length ≤ 4294967296) :
    Calls Tryd.prog 51 #[.slice A l.length c] w fun e w' => ∃ v, e = .returned v ∧ Row w' w.heap.size 3 1 v (runes l).length ((runes l).map n64) ∧ Below w.heap.size w w' := by
  go_enter Tryd.func51, Tryd.ntmps51
  go_wp2
  go_loopw [0, 3] (fun u0 u3 wr => ∃ (xs : List Nat) (lk : Bs) (Ak : Option Addr) (ck : Nat), u0 = .slice Ak lk.length ck ∧ RdB w Ak lk ∧ lk.length ≤ ck ∧ Row wr w.heap.size 3 1 u3 xs.length (xs.map n64) ∧ Below w.heap.size w wr ∧ xs ++ runes lk = runes l ∧ xs.length + lk.length ≤ l.length) (fun u0 _ _ => lenOf u0)
  case atStart => exact ⟨[], l, A, c, rfl, hr, hlc, Row.nil _ _ _ _, Below.refl _ _, rfl, by simp⟩
  case round =>
    obtain ⟨xs, lk, Ak, ck, rfl, hrk, hck, hrow, hb, hx, hlen⟩ := hrel
    have HX := Lib.hid hx
    clear hx
    have hbs := hb.size
    by_cases h0 : lk = []
    · subst h0
      go_wp2
      go_ret
      have hx := HX.out
      rw [runes_nil, List.append_nil] at hx
      rw [← hx]
      exact ⟨u3, rfl, hrow, hb⟩
    · have hlp := List.length_pos_iff.2 h0
      have hnx := nxt_ne h0
      have hdl := dec_le h0
      have hdp := dec_pos lk
      have hgt : decide ((0 : Int) < (lk.length : Int)) = true := by simp; omega
      go_wp2_with (first
        | (go_at_call 29; refine (rNext_calls Ak ck lk wr (hrk.later hb) (by omega)).mono ?_; rintro e w2 ⟨rfl, hb2⟩; rw [hnx]; have hrow2 := hrow.below hb2 (Nat.le_refl _); have hsz2 := hb2.size)
        | (at_builtin; refine wpList_append_row _ rfl _ _ 87 rfl w.heap.size 3 1 8 _ Tryd.underlying87 Tryd.info_int rfl (by decide) u3 _ _ rfl (hrow2.alloc _) _ 1 1 [n64 (dec lk).1] rfl rfl (Rd.new1 _ _ _) (by simp [Value.oneCell']) (by omega) (by simp only [maxLen]; omega) (by simp; omega) ?_; intro A3 c3 w3 hrow3 hg3 hb3))
      go_roundw
      case rel =>
        have hl4 : (lk.drop (dec lk).2).length = lk.length - (dec lk).2 := by simp
        refine ⟨xs ++ [(dec lk).1], lk.drop (dec lk).2, _, ck - (dec lk).2, by rw [hl4], by unfold RdB; rw [List.map_drop]; exact Rd.drop hrk (dec lk).2 ck (by simpa using hck), by omega, by simpa using hrow3, ?_, runes_step' h0 xs _ HX.out, by simp; omega⟩
        exact app_below (hb.trans (hb2.mono hbs)) (by omega) hg3 fun k e => (hrow2.lt _ e).1
      case measure => simp [lenOf]; omega
end Go.Proofs.YtfgjhfmgacopoaaDoor
namespace Go.Proofs.YtfgjhfmgacopoaaDoor
open Go.RowKit
theorem rb_enc {r : Nat} (h : Utf8.valid (r : Int) = true) : rb (r : Int) = enc r := by
  rw [enc_eq h]; unfold rb; rw [if_pos h, Int.toNat_natCast]
/-- A slice of ints that can be read. -/
theorem Rd.at0 {w : World} {A : Option Addr} {xs : List Value} (h : Rd w A xs) (h0 : xs ≠ []) : ∃ b off, A = some ⟨b, off, none⟩ ∧ ∀ k u, xs[k]? = some u → w.cell? ⟨b, off + k, none⟩ = some u := by
  cases xs with
  | nil => exact absurd rfl h0
  | cons x t =>
    obtain ⟨b, off, rfl, _⟩ := h 0 x rfl
    refine ⟨b, off, rfl, fun k u hk => ?_⟩
    obtain ⟨b', off', e, hc⟩ := h k u hk
    cases e; exact hc
set_option maxHeartbeats 800000 in
set_option maxRecDepth 100000 in
/-- ref.Clean. -/
theorem rClean_calls (A : Option Addr) (c : Nat) (l : Bs) (w : World) (hr : RdB w A l) (hlc : l.length ≤ c) (hl : l.length ≤ 4294967296) :
    Calls Tryd.prog 32 #[.slice A l.length c] w fun e w' => ∃ v, e = .returned v ∧ Row w' w.heap.size 5 1 v (clean l).length ((clean l).map byt) ∧ Below w.heap.size w w' := by
  go_enter Tryd.func32, Tryd.ntmps32
  go_wp2_with fail
  refine (rRunes_calls A c l w hr hlc hl).mono ?_
  rintro e w1 ⟨v1, rfl, hrow1, hb1⟩
  obtain ⟨A1, c1, rfl, hn1, hm1, hrd1, hA1⟩ := hrow1.rd
  have hrl := runes_length l
  have hfl := flat_len (runes l)
  go_wp2
  go_loopw [3, 5] (fun u3 u5 wr => ∃ (k : Nat) (acc : Bs), u5 = .int .i64 k ∧ k ≤ (runes l).length ∧ acc = ((runes l).take k).flatMap enc ∧ Row wr w1.heap.size 5 1 u3 acc.length (acc.map byt) ∧ Below w1.heap.size w1 wr) (fun _ u5 _ => (runes l).length - (intOf u5).toNat)
  case atStart => exact ⟨0, [], rfl, Nat.zero_le _, rfl, Row.nil _ _ _ _, Below.refl _ _⟩
  case round =>
    obtain ⟨k, acc, rfl, hk, hacc, hrow, hb⟩ := hrel
    have hal : acc.length ≤ 4 * k := by
      rw [hacc]; have := flat_len ((runes l).take k); rw [List.length_take] at this; omega
    have HA := Lib.hid hacc
    clear hacc
    by_cases hlt : k < (runes l).length
    · have hne : (runes l).map n64 ≠ [] := by intro e; have := congrArg List.length e; simp at this; rw [this] at hlt; simp at hlt
      obtain ⟨b, off, rfl, hcell⟩ := (hrd1.later hb).at0 hne
      have hck := hcell k (n64 ((runes l)[k]'hlt)) (by rw [List.getElem?_map, List.getElem?_eq_getElem hlt]; rfl)
      clear hcell
      obtain ⟨r, hrk⟩ : ∃ r, r = (runes l)[k]'hlt := ⟨_, rfl⟩
      rw [← hrk] at hck
      have hval : Utf8.valid (r : Int) = true := by rw [hrk]; exact runes_val l _ (List.getElem_mem hlt)
      have HR := Lib.hid hrk
      have HRB := Lib.hid (rb_enc hval)
      have HV := Lib.hid hval
      clear hrk hval
      have hel := enc_len r
      go_wp2_with (first
        | (go_at_call 31; refine (Bytes_calls (r : Int) wr).mono ?_; rintro e w2 ⟨v2, rfl, hrow2, hb2⟩; rw [HRB.out] at hrow2; obtain ⟨A2, c2, rfl, _, _, hrd2, _⟩ := hrow2.rd; have hrow' := hrow.below hb2 (Nat.le_refl _); have hsz2 := hb2.size; have hszr := hb.size)
        | (at_builtin; refine wpList_append_row _ rfl _ _ 61 rfl w1.heap.size 5 1 1 _ Tryd.underlying61 Tryd.info_u8 rfl (by decide) u3 _ _ rfl hrow' _ _ _ ((enc r).map byt) rfl (by simp) hrd2 (by simp [Value.oneCell']) (by omega) (by simp only [maxLen]; omega) (by omega) ?_; intro A3 c3 w3 hrow3 hg3 hb3))
      go_roundw
      case rel =>
        refine ⟨k + 1, acc ++ enc r, by go_num, by omega, ?_, by simpa using hrow3, (hb.trans (hb2.mono hb.size)).grown hg3 (by omega) fun k e => (hrow'.lt _ e).1⟩
        rw [HA.out, List.take_succ_eq_append_getElem hlt, List.flatMap_append, ← HR.out]
        simp
      case measure => simp [intOf]; omega
    · go_wp2
      go_ret
      have hkk : k = (runes l).length := by omega
      have ha := HA.out
      rw [hkk, List.take_length] at ha
      refine ⟨u3, rfl, ?_, hb1.trans (hb.mono hb1.size)⟩
      unfold clean
      rw [← ha]
      exact hrow.mono hb1.size
end Go.Proofs.YtfgjhfmgacopoaaDoor
