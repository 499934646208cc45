import Derived.Test.YtphfopbklebeoaaSr3
import Derived.Test.YtphfopbklebeoaaPs
namespace Go.Proofs.Ytphfopbklebeoaa
open Go.RowKit
theorem rb_enc {r : Nat} (h : Utf8.valid (r : Int) = true) : rb (r : Int) = enc r := by
  rw [enc_eq h]; unfold rb; rw [if_pos h, Int.toNat_natCast]
/-- A slice of ints that can be read. -/
theorem Rd.at0 {w : World} {A : Option Addr} {xs : List Value} (h : Rd w A xs) (h0 : xs ≠ []) : ∃ b off, A = some ⟨b, off, none⟩ ∧ ∀ k u, xs[k]? = some u → w.cell? ⟨b, off + k, none⟩ = some u := by
  cases xs with
  | nil => exact absurd rfl h0
  | cons x t =>
    obtain ⟨b, off, rfl, _⟩ := h 0 x rfl
    refine ⟨b, off, rfl, fun k u hk => ?_⟩
    obtain ⟨b', off', e, hc⟩ := h k u hk
    cases e; exact hc
set_option maxHeartbeats 800000 in
set_option maxRecDepth 100000 in
/-- ref.Clean. -/
theorem rClean_calls (A : Option Addr) (c : Nat) (l : Bs) (w : World) (hr : RdB w A l) (hlc : l.length ≤ c) (hl : l.length ≤ 4294967296) :
    Calls Try.prog 19 #[.slice A l.length c] w fun e w' => ∃ v, e = .returned v ∧ Row w' w.heap.size 5 1 v (clean l).length ((clean l).map byt) ∧ Below w.heap.size w w' := by
  go_enter Try.func19, Try.ntmps19
  go_wp2_with fail
  refine (rRunes_calls A c l w hr hlc hl).mono ?_
  rintro e w1 ⟨v1, rfl, hrow1, hb1⟩
  obtain ⟨A1, c1, rfl, hn1, hm1, hrd1, hA1⟩ := hrow1.rd
  have hrl := runes_length l
  have hfl := flat_len (runes l)
  go_wp2
  go_loopw [3, 5] (fun u3 u5 wr => ∃ (k : Nat) (acc : Bs), u5 = .int .i64 k ∧ k ≤ (runes l).length ∧ acc = ((runes l).take k).flatMap enc ∧ Row wr w1.heap.size 5 1 u3 acc.length (acc.map byt) ∧ Below w1.heap.size w1 wr) (fun _ u5 _ => (runes l).length - (intOf u5).toNat)
  case atStart => exact ⟨0, [], rfl, Nat.zero_le _, rfl, Row.nil _ _ _ _, Below.refl _ _⟩
  case round =>
    obtain ⟨k, acc, rfl, hk, hacc, hrow, hb⟩ := hrel
    have hal : acc.length ≤ 4 * k := by
      rw [hacc]; have := flat_len ((runes l).take k); rw [List.length_take] at this; omega
    have HA := Lib.hid hacc
    clear hacc
    by_cases hlt : k < (runes l).length
    · have hne : (runes l).map n64 ≠ [] := by intro e; have := congrArg List.length e; simp at this; rw [this] at hlt; simp at hlt
      obtain ⟨b, off, rfl, hcell⟩ := (hrd1.later hb).at0 hne
      have hck := hcell k (n64 ((runes l)[k]'hlt)) (by rw [List.getElem?_map, List.getElem?_eq_getElem hlt]; rfl)
      clear hcell
      obtain ⟨r, hrk⟩ : ∃ r, r = (runes l)[k]'hlt := ⟨_, rfl⟩
      rw [← hrk] at hck
      have hval : Utf8.valid (r : Int) = true := by rw [hrk]; exact runes_val l _ (List.getElem_mem hlt)
      have HR := Lib.hid hrk
      have HRB := Lib.hid (rb_enc hval)
      have HV := Lib.hid hval
      clear hrk hval
      have hel := enc_len r
      go_wp2_with (first
        | (go_at_call 20; refine (Bytes_calls (r : Int) wr).mono ?_; rintro e w2 ⟨v2, rfl, hrow2, hb2⟩; rw [HRB.out] at hrow2; obtain ⟨A2, c2, rfl, _, _, hrd2, _⟩ := hrow2.rd; have hrow' := hrow.below hb2 (Nat.le_refl _); have hsz2 := hb2.size; have hszr := hb.size)
        | (at_builtin; refine wpList_append_row _ rfl _ _ 22 rfl w1.heap.size 5 1 1 _ Try.underlying22 Try.info_u8 rfl (by decide) u3 _ _ rfl hrow' _ _ _ ((enc r).map byt) rfl (by simp) hrd2 (by simp [Value.oneCell']) (by omega) (by simp only [maxLen]; omega) (by omega) ?_; intro A3 c3 w3 hrow3 hg3 hb3))
      go_roundw
      case rel =>
        refine ⟨k + 1, acc ++ enc r, by go_num, by omega, ?_, by simpa using hrow3, (hb.trans (hb2.mono hb.size)).grown hg3 (by omega) fun k e => (hrow'.lt _ e).1⟩
        rw [HA.out, List.take_succ_eq_append_getElem hlt, List.flatMap_append, ← HR.out]
        simp
      case measure => simp [intOf]; omega
    · go_wp2
      go_ret
      have hkk : k = (runes l).length := by omega
      have ha := HA.out
      rw [hkk, List.take_length] at ha
      refine ⟨u3, rfl, ?_, hb1.trans (hb.mono hb1.size)⟩
      unfold clean
      rw [← ha]
      exact hrow.mono hb1.size
set_option maxHeartbeats 800000 in
/-- law01.same. -/
theorem same_calls (A A' : Option Addr) (c c' : Nat) (xs ys : List Nat) (w : World) (hr : Rd w A (xs.map i32)) (hr' : Rd w A' (ys.map n64)) (hx : xs.length ≤ 4294967296) (_hy : ys.length ≤ 4294967296) (hv : ∀ r ∈ xs, r ≤ 4294967296) :
    Calls Try.prog 17 #[.slice A xs.length c, .slice A' ys.length c'] w fun e w' => e = .returned (.bool (decide (xs = ys))) ∧ Below w.heap.size w w' := by
  by_cases hle : xs.length = ys.length
  case neg =>
    have hd : decide (xs = ys) = false := decide_eq_false (fun e => hle (by rw [e]))
    have hne : ((xs.length : Int) != (ys.length : Int)) = true := by simp; omega
    rw [hd]
    go_enter Try.func17, Try.ntmps17
    go_wp2
    go_ret
    exact ⟨rfl, Below.refl _ _⟩
  have hne : ((xs.length : Int) != (ys.length : Int)) = false := by simp; omega
  have HLE := Lib.hid hle
  clear hle
  have HR := Lib.hid hr
  have HR' := Lib.hid hr'
  have HV := Lib.hid hv
  clear hr hr' hv
  go_enter Try.func17, Try.ntmps17
  go_wp2
  go_loopw [13] (fun u13 wr => ∃ (k nd : Nat), u13 = .int .i64 k ∧ wr = w.drewN nd ∧ k ≤ xs.length ∧ ∀ j, j < k → xs[j]? = ys[j]?) (fun u13 _ => xs.length - (intOf u13).toNat)
  case atStart => exact ⟨0, 0, rfl, rfl, Nat.zero_le _, fun j hj => by omega⟩
  case round =>
    obtain ⟨k, nd, rfl, rfl, hk, heq⟩ := hrel
    have HE := Lib.hid heq
    clear heq
    by_cases hlt : k < xs.length
    · have hlt' : k < ys.length := by have := HLE.out; omega
      obtain ⟨b, off, rfl, hc⟩ := HR.out.at0 (by intro e; have := congrArg List.length e; simp at this; rw [this] at hlt; simp at hlt)
      obtain ⟨b', off', rfl, hc'⟩ := HR'.out.at0 (by intro e; have := congrArg List.length e; simp at this; rw [this] at hlt'; simp at hlt')
      have hc1 := hc k (i32 (xs[k]'hlt)) (by rw [List.getElem?_map, List.getElem?_eq_getElem hlt]; rfl)
      have hc2 := hc' k (n64 (ys[k]'hlt')) (by rw [List.getElem?_map, List.getElem?_eq_getElem hlt']; rfl)
      clear hc hc'
      have hb1 := HV.out _ (List.getElem_mem hlt)
      obtain ⟨p, hp⟩ : ∃ p, p = xs[k]'hlt := ⟨_, rfl⟩
      obtain ⟨q, hq⟩ : ∃ q, q = ys[k]'hlt' := ⟨_, rfl⟩
      rw [← hp] at hc1 hb1
      rw [← hq] at hc2
      have HP := Lib.hid hp
      have HQ := Lib.hid hq
      clear hp hq
      have b1 : (k : Int) < (xs.length : Int) := by omega
      have b2 : (k : Int) < (ys.length : Int) := by omega
      have hw : IntKind.i64.wrap (p : Int) = (p : Int) := IntWalk.i64_in _ (by omega)
      by_cases he : p = q
      · have he' : ((p : Int) != (q : Int)) = false := by simp [he]
        go_wp2
        go_quiet (fail)
        go_wp2
        go_roundw
        case rel =>
          refine ⟨k + 1, _, by go_num, rfl, by omega, fun j hj => ?_⟩
          rcases Nat.lt_succ_iff_lt_or_eq.1 hj with h | h
          · exact HE.out j h
          · rw [h, List.getElem?_eq_getElem hlt, List.getElem?_eq_getElem hlt', ← HP.out, ← HQ.out, he]
        case measure => simp [intOf]; omega
      · have he' : ((p : Int) != (q : Int)) = true := by simp; omega
        go_wp2
        go_quiet (fail)
        go_wp2
        go_ret
        have hd : decide (xs = ys) = false := decide_eq_false (fun e => he (by rw [HP.out, HQ.out]; simp only [e]))
        rw [hd]
        exact ⟨rfl, (Below.refl _ _).trans ⟨rfl, rfl, rfl, Nat.le_refl _, fun _ _ => rfl⟩⟩
    · go_wp2
      go_ret
      have hd : decide (xs = ys) = true := decide_eq_true (List.ext_getElem? fun j => by
        by_cases h : j < k
        · exact HE.out j h
        · have := HLE.out
          rw [List.getElem?_eq_none (by omega), List.getElem?_eq_none (by omega)])
      rw [hd]
      exact ⟨rfl, (Below.refl _ _).trans ⟨rfl, rfl, rfl, Nat.le_refl _, fun _ _ => rfl⟩⟩
end Go.Proofs.Ytphfopbklebeoaa
