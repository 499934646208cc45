import Derived.Test.YtphfopbklebeoaaLw3
import Derived.Test.YtphfopbklebeoaaM2
namespace Go.Proofs.Ytphfopbklebeoaa
open Go.RowKit
set_option maxHeartbeats 3200000 in
set_option maxRecDepth 100000 in
theorem SignJoins_walk (A A' : Option Addr) (c c' : Nat) (a b : Bs) (w : World) (hr : RdB w A a) (hr' : RdB w A' b) :
    Calls Try.prog 8 #[.slice A a.length c, .slice A' b.length c'] w fun e w' => e = .returned (.bool true) ∧ Below w.heap.size w w' := by
  by_cases hbig : 500 < a.length
  · go_enter Try.func8, Try.ntmps8
    go_wp2_with fail
    refine (alive_calls _).mono ?_
    rintro e w1 ⟨rfl, hb⟩
    go_wp2
    go_ret
    exact ⟨rfl, hb⟩
  by_cases hbig' : 500 < b.length
  · go_enter Try.func8, Try.ntmps8
    go_wp2_with fail
    refine (alive_calls _).mono ?_
    rintro e w1 ⟨rfl, hb⟩
    go_wp2
    go_ret
    exact ⟨rfl, hb⟩
  have HR := Lib.hid hr
  have HR' := Lib.hid hr'
  clear hr hr'
  have hcl := clean_len a
  have hrl := runes_length (clean a)
  have hrl' := runes_length b
  obtain ⟨q, hq⟩ : ∃ x : Bs, x = clean a := ⟨_, rfl⟩
  rw [← hq] at hcl hrl
  have HQ := Lib.hid hq
  go_enter Try.func8, Try.ntmps8
  go_wp2_with fail
  refine (Clean_calls A c a w HR.out (by omega)).mono ?_
  rintro e w1 ⟨rfl, hb1⟩
  rw [← hq]
  clear hq
  obtain ⟨cap2, w2, hcv2, hc2, hm2, hrd2, hb2⟩ := str_bytes w1 q (by omega)
  have B2 := hb1.trans (hb2.mono hb1.size)
  go_wp2_with fail
  clear hcv2
  refine (alive_calls w2).mono ?_
  rintro e w3 ⟨rfl, hb3⟩
  have B3 := B2.trans (hb3.mono B2.size)
  go_wp2_with fail
  refine (Runes_calls _ cap2 q w3 (hrd2.later hb3) (by omega)).mono ?_
  rintro e w4 ⟨v4, rfl, hrow4, hb4⟩
  obtain ⟨A4, c4, rfl, _, _, _, _⟩ := hrow4.rd
  have B4 := B3.trans (hb4.mono B3.size)
  have C4 := hb3.trans (hb4.mono hb3.size)
  go_wp2_with fail
  refine (Runes_calls A' c' b w4 (HR'.out.later B4) (by omega)).mono ?_
  rintro e w5 ⟨v5, rfl, hrow5, hb5⟩
  obtain ⟨A5, c5, rfl, _, _, hrd5, _⟩ := hrow5.rd
  have B5 := B4.trans (hb5.mono B4.size)
  have C5 := C4.trans (hb5.mono C4.size)
  have hrow4' := hrow4.below hb5 (Nat.le_refl _)
  have z5 := C5.size
  have z34 := hb4.size
  have z45 := hb5.size
  clear hrow4
  go_wp2_with (first
    | (at_builtin; refine wpList_append_rowG _ rfl _ _ 29 rfl w3.heap.size 21 1 4 _ Try.underlying29 Try.info_i32 rfl (by decide) (.slice A4 (runes q).length c4) _ _ rfl hrow4' A5 _ _ ((runes b).map i32) rfl (by simp) hrd5 (by simp [Value.oneCell']) (by omega) (by simp only [maxLen]; omega) (by omega) ?_; intro A6 c6 w6 hrow6 hg6 hb6; have C6 : Below w3.heap.size w3 w6 := (hb4.trans (hb5.mono hb4.size)).grown hg6 (by omega) (fun k e => (hrow4'.lt _ e).1); have z6 := C6.size; have hq6 := Rd.later hrd2 (hb3.trans (C6.mono hb3.size)); have hb6' := HR'.out.later (B3.trans (C6.mono B3.size)); have hnew := Row.new w6 #[] w6.heap.size 5 1 0 (Nat.le_refl _) (by simp [maxLen]) (by simp); have hq6' := hq6.later ((Below.refl _ w6).alloc (Nat.le_refl _) (.cells #[] 5)))
    | (at_builtin; refine wpList_append_rowG _ rfl _ _ 22 rfl w6.heap.size 5 1 1 _ Try.underlying22 Try.info_u8 rfl (by decide) (.slice (some ⟨w6.heap.size, 0, none⟩) 0 0) 0 [] rfl hnew _ _ _ (q.map byt) rfl (by simp) hq6' (by simp [Value.oneCell']) (by omega) (by simp only [maxLen]; omega) (by simp) ?_; intro A7 c7 w7 hrow7 hg7 hb7; have B7 : Below w6.heap.size w6 w7 := app_below (Below.refl _ _) (Nat.le_refl _) hg7 (fun k e => by simp [Value.ownBlock] at e; omega); simp only [Nat.zero_add, List.nil_append] at hrow7; have hb7' := hb6'.later B7; have z7 := B7.size)
    | (at_builtin; refine wpList_append_rowG _ rfl _ _ 22 rfl w6.heap.size 5 1 1 _ Try.underlying22 Try.info_u8 rfl (by decide) (.slice A7 q.length c7) q.length (q.map byt) rfl hrow7 A' _ _ (b.map byt) rfl (by simp) hb7' (by simp [Value.oneCell']) (by omega) (by simp only [maxLen]; omega) (by omega) ?_; intro A8 c8 w8 hrow8 hg8 hb8))
  have B8 : Below w6.heap.size w6 w8 := B7.grown hg8 B7.size fun k e => (hrow7.lt _ e).1
  have BB8 : Below w.heap.size w w8 := (B3.trans (C6.mono B3.size)).trans (B8.mono (by have := B3.size; omega))
  have hrow6' : Row w8 w3.heap.size 21 1 (.slice A6 ((runes q).length + (runes b).length) c6) ((runes q).length + (runes b).length) ((runes q).map i32 ++ (runes b).map i32) := hrow6.below B8 (Nat.le_refl _)
  obtain ⟨A6', c6', e, _, _, hrd6, _⟩ := hrow6'.rd
  cases e
  obtain ⟨A8', c8', e, hn8, _, hrd8, _⟩ := hrow8.rd
  cases e
  obtain ⟨lm, hlmq⟩ : ∃ x : Bs, x = q ++ b := ⟨_, rfl⟩
  obtain ⟨rs, hrs⟩ : ∃ x : List Nat, x = runes q ++ runes b := ⟨_, rfl⟩
  have hrun : runes lm = rs := by rw [hlmq, hrs, HQ.out, runes_clean, runes_clean']
  have hlen8 : q.length + b.length = lm.length := by rw [hlmq]; simp
  have hlen6 : (runes q).length + (runes b).length = rs.length := by rw [hrs]; simp
  have hrd8' : RdB w8 A8 lm := by unfold RdB; rw [hlmq]; simpa using hrd8
  have hrd6' : Rd w8 A6 (rs.map i32) := by rw [hrs]; simpa using hrd6
  simp only [hlen8, hlen6]
  rw [hlen8] at hn8
  refine (rRunes_calls A8 c8 lm w8 hrd8' hn8 (by omega)).mono ?_
  rintro e w9 ⟨v9, rfl, hrow9, hb9⟩
  rw [hrun] at hrow9
  obtain ⟨A9, c9, rfl, _, _, hrd9, _⟩ := hrow9.rd
  have hle : ∀ r ∈ rs, r ≤ 4294967296 := by rw [← hrun]; exact runes_le lm
  have hrsl : rs.length ≤ 4294967296 := by omega
  clear hrow6 hrow7 hrow8 hrow9 hrow6' hrow4' hrow5 hlen6 hlen8 hrun hrs hlmq hrd6 hrd8
  go_wp2_with fail
  refine (same_calls A6 A9 c6 c9 rs rs w9 (Rd.later hrd6' hb9) hrd9 (by omega) (by omega) hle).mono ?_
  rintro e w10 ⟨rfl, hb10⟩
  rw [decide_eq_true rfl]
  go_wp2
  go_ret
  exact ⟨rfl, (BB8.trans (hb9.mono BB8.size)).trans (hb10.mono (Nat.le_trans BB8.size hb9.size))⟩
end Go.Proofs.Ytphfopbklebeoaa
