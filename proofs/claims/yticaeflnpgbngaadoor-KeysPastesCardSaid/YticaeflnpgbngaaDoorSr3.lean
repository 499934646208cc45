import Derived.Test.YticaeflnpgbngaaDoorSr2
import Derived.Test.YticaeflnpgbngaaDoorKa
import Derived.Deep.RegionHeld3
import Derived.Test.YticaeflnpgbngaaDoorPu
namespace Go.Proofs.YticaeflnpgbngaaDoor
open Go.RowKit
theorem Tryd.info_int : (Tryd.prog.info? 3).map (fun i => (i.zero, i.size, i.bytes)) = some (some (.int .i64 0), 1, 8) := by kernel_rfl
theorem runes_step' {lk : Bs} (h : lk ≠ []) (xs l' : List Nat) (hx : xs ++ runes lk = l') : (xs ++ [(dec lk).1]) ++ runes (lk.drop (dec lk).2) = l' := by
  rw [← hx, runes_cons h]; simp
set_option maxHeartbeats 800000 in
set_option maxRecDepth 100000 in
/-- ref.Runes. -/
theorem rRunes_calls (A : Option Addr) (c : Nat) (l : Bs) (w : World) (hr : RdB w A l) (hlc : l.length ≤ c) (hl : l.length ≤ 4294967296) :
    Calls Tryd.prog 25 #[.slice A l.length c] w fun e w' => ∃ v, e = .returned v ∧ Row w' w.heap.size 3 1 v (runes l).length ((runes l).map n64) ∧ Below w.heap.size w w' := by
  go_enter Tryd.func25, Tryd.ntmps25
  go_wp2
  go_loopw [0, 3] (fun u0 u3 wr => ∃ (xs : List Nat) (lk : Bs) (Ak : Option Addr) (ck : Nat), u0 = .slice Ak lk.length ck ∧ RdB w Ak lk ∧ lk.length ≤ ck ∧ Row wr w.heap.size 3 1 u3 xs.length (xs.map n64) ∧ Below w.heap.size w wr ∧ xs ++ runes lk = runes l ∧ xs.length + lk.length ≤ l.length) (fun u0 _ _ => lenOf u0)
  case atStart => exact ⟨[], l, A, c, rfl, hr, hlc, Row.nil _ _ _ _, Below.refl _ _, rfl, by simp⟩
  case round =>
    obtain ⟨xs, lk, Ak, ck, rfl, hrk, hck, hrow, hb, hx, hlen⟩ := hrel
    have HX := Lib.hid hx
    clear hx
    have hbs := hb.size
    by_cases h0 : lk = []
    · subst h0
      go_wp2
      go_ret
      have hx := HX.out
      rw [runes_nil, List.append_nil] at hx
      rw [← hx]
      exact ⟨u3, rfl, hrow, hb⟩
    · have hlp := List.length_pos_iff.2 h0
      have hnx := nxt_ne h0
      have hdl := dec_le h0
      have hdp := dec_pos lk
      have hgt : decide ((0 : Int) < (lk.length : Int)) = true := by simp; omega
      go_wp2_with (first
        | (go_at_call 42; refine (rNext_calls Ak ck lk wr (hrk.later hb) (by omega)).mono ?_; rintro e w2 ⟨rfl, hb2⟩; rw [hnx]; have hrow2 := hrow.below hb2 (Nat.le_refl _); have hsz2 := hb2.size)
        | (at_builtin; refine wpList_append_row _ rfl _ _ 43 rfl w.heap.size 3 1 8 _ Tryd.underlying43 Tryd.info_int rfl (by decide) u3 _ _ rfl (hrow2.alloc _) _ 1 1 [n64 (dec lk).1] rfl rfl (Rd.new1 _ _ _) (by simp [Value.oneCell']) (by omega) (by simp only [maxLen]; omega) (by simp; omega) ?_; intro A3 c3 w3 hrow3 hg3 hb3))
      go_roundw
      case rel =>
        have hl4 : (lk.drop (dec lk).2).length = lk.length - (dec lk).2 := by simp
        refine ⟨xs ++ [(dec lk).1], lk.drop (dec lk).2, _, ck - (dec lk).2, by rw [hl4], by unfold RdB; rw [List.map_drop]; exact Rd.drop hrk (dec lk).2 ck (by simpa using hck), by omega, by simpa using hrow3, ?_, runes_step' h0 xs _ HX.out, by simp; omega⟩
        exact app_below (hb.trans (hb2.mono hbs)) (by omega) hg3 fun k e => (hrow2.lt _ e).1
      case measure => simp [lenOf]; omega
end Go.Proofs.YticaeflnpgbngaaDoor
namespace Go.Proofs.YticaeflnpgbngaaDoor
open Go.RowKit
theorem rb_enc {r : Nat} (h : Utf8.valid (r : Int) = true) : rb (r : Int) = enc r := by
  rw [enc_eq h]; unfold rb; rw [if_pos h, Int.toNat_natCast]
/-- A slice of ints that can be read. -/
theorem Rd.at0 {w : World} {A : Option Addr} {xs : List Value} (h : Rd w A xs) (h0 : xs ≠ []) : ∃ b off, A = some ⟨b, off, none⟩ ∧ ∀ k u, xs[k]? = some u → w.cell? ⟨b, off + k, none⟩ = some u := by
  cases xs with
  | nil => exact absurd rfl h0
  | cons x t =>
    obtain ⟨b, off, rfl, _⟩ := h 0 x rfl
    refine ⟨b, off, rfl, fun k u hk => ?_⟩
    obtain ⟨b', off', e, hc⟩ := h k u hk
    cases e; exact hc
end Go.Proofs.YticaeflnpgbngaaDoor
