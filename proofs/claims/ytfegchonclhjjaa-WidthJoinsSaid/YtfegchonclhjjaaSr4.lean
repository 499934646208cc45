import Derived.Test.YtfegchonclhjjaaSr3
import Derived.Test.YtfegchonclhjjaaPs
namespace Go.Proofs.Ytfegchonclhjjaa
open Go.RowKit
theorem rb_enc {r : Nat} (h : Utf8.valid (r : Int) = true) : rb (r : Int) = enc r := by
  rw [enc_eq h]; unfold rb; rw [if_pos h, Int.toNat_natCast]
/-- A slice of ints that can be read. -/
theorem Rd.at0 {w : World} {A : Option Addr} {xs : List Value} (h : Rd w A xs) (h0 : xs ≠ []) : ∃ b off, A = some ⟨b, off, none⟩ ∧ ∀ k u, xs[k]? = some u → w.cell? ⟨b, off + k, none⟩ = some u := by
  cases xs with
  | nil => exact absurd rfl h0
  | cons x t =>
    obtain ⟨b, off, rfl, _⟩ := h 0 x rfl
    refine ⟨b, off, rfl, fun k u hk => ?_⟩
    obtain ⟨b', off', e, hc⟩ := h k u hk
    cases e; exact hc
set_option maxHeartbeats 800000 in
set_option maxRecDepth 100000 in
/-- ref.Clean. -/
theorem rClean_calls (A : Option Addr) (c : Nat) (l : Bs) (w : World) (hr : RdB w A l) (hlc : l.length ≤ c) (hl : l.length ≤ 4294967296) :
    Calls Try.prog 27 #[.slice A l.length c] w fun e w' => ∃ v, e = .returned v ∧ Row w' w.heap.size 5 1 v (clean l).length ((clean l).map byt) ∧ Below w.heap.size w w' := by
  go_enter Try.func27, Try.ntmps27
  go_wp2_with fail
  refine (rRunes_calls A c l w hr hlc hl).mono ?_
  rintro e w1 ⟨v1, rfl, hrow1, hb1⟩
  obtain ⟨A1, c1, rfl, hn1, hm1, hrd1, hA1⟩ := hrow1.rd
  have hrl := runes_length l
  have hfl := flat_len (runes l)
  go_wp2
  go_loopw [3, 5] (fun u3 u5 wr => ∃ (k : Nat) (acc : Bs), u5 = .int .i64 k ∧ k ≤ (runes l).length ∧ acc = ((runes l).take k).flatMap enc ∧ Row wr w1.heap.size 5 1 u3 acc.length (acc.map byt) ∧ Below w1.heap.size w1 wr) (fun _ u5 _ => (runes l).length - (intOf u5).toNat)
  case atStart => exact ⟨0, [], rfl, Nat.zero_le _, rfl, Row.nil _ _ _ _, Below.refl _ _⟩
  case round =>
    obtain ⟨k, acc, rfl, hk, hacc, hrow, hb⟩ := hrel
    have hal : acc.length ≤ 4 * k := by
      rw [hacc]; have := flat_len ((runes l).take k); rw [List.length_take] at this; omega
    have HA := Lib.hid hacc
    clear hacc
    by_cases hlt : k < (runes l).length
    · have hne : (runes l).map n64 ≠ [] := by intro e; have := congrArg List.length e; simp at this; rw [this] at hlt; simp at hlt
      obtain ⟨b, off, rfl, hcell⟩ := (hrd1.later hb).at0 hne
      have hck := hcell k (n64 ((runes l)[k]'hlt)) (by rw [List.getElem?_map, List.getElem?_eq_getElem hlt]; rfl)
      clear hcell
      obtain ⟨r, hrk⟩ : ∃ r, r = (runes l)[k]'hlt := ⟨_, rfl⟩
      rw [← hrk] at hck
      have hval : Utf8.valid (r : Int) = true := by rw [hrk]; exact runes_val l _ (List.getElem_mem hlt)
      have HR := Lib.hid hrk
      have HRB := Lib.hid (rb_enc hval)
      have HV := Lib.hid hval
      clear hrk hval
      have hel := enc_len r
      go_wp2_with (first
        | (go_at_call 35; refine (Bytes_calls (r : Int) wr).mono ?_; rintro e w2 ⟨v2, rfl, hrow2, hb2⟩; rw [HRB.out] at hrow2; obtain ⟨A2, c2, rfl, _, _, hrd2, _⟩ := hrow2.rd; have hrow' := hrow.below hb2 (Nat.le_refl _); have hsz2 := hb2.size; have hszr := hb.size)
        | (at_builtin; refine wpList_append_row _ rfl _ _ 38 rfl w1.heap.size 5 1 1 _ Try.underlying38 Try.info_u8 rfl (by decide) u3 _ _ rfl hrow' _ _ _ ((enc r).map byt) rfl (by simp) hrd2 (by simp [Value.oneCell']) (by omega) (by simp only [maxLen]; omega) (by omega) ?_; intro A3 c3 w3 hrow3 hg3 hb3))
      go_roundw
      case rel =>
        refine ⟨k + 1, acc ++ enc r, by go_num, by omega, ?_, by simpa using hrow3, (hb.trans (hb2.mono hb.size)).grown hg3 (by omega) fun k e => (hrow'.lt _ e).1⟩
        rw [HA.out, List.take_succ_eq_append_getElem hlt, List.flatMap_append, ← HR.out]
        simp
      case measure => simp [intOf]; omega
    · go_wp2
      go_ret
      have hkk : k = (runes l).length := by omega
      have ha := HA.out
      rw [hkk, List.take_length] at ha
      refine ⟨u3, rfl, ?_, hb1.trans (hb.mono hb1.size)⟩
      unfold clean
      rw [← ha]
      exact hrow.mono hb1.size
end Go.Proofs.Ytfegchonclhjjaa
