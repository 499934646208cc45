import Derived.Test.YtfgjhfmgacopoaaDoorLo8
import Derived.Deep.QuietTactic
import Derived.BigQuiet
namespace Go.Proofs.YtfgjhfmgacopoaaDoor
set_option linter.unusedVariables false
set_option linter.unusedSimpArgs false
open Go.RowKit Go.Shelf
/-! Chapter 18: a terminal's size. -/
theorem clamp_eq (n : Int) {hi : Int} (h : 1 ≤ hi) : Value.int .i64 (min (max n 1) hi) = n64 (clampN n hi) := by
  unfold clampN; congr 1; omega
theorem cut_calls (a b : Int) (w : World) : Calls Tryd.prog 46 #[.int .i64 a, .int .i64 b] w fun e w' => e = .returned (.tuple #[n64 (clampN a 60), n64 (clampN b 120)]) ∧ w = w' := by
  rw [← clamp_eq a (by omega), ← clamp_eq b (by omega)]
  go_enter Tryd.func46, Tryd.ntmps46
  go_wp2
  go_ret2
  exact ⟨rfl, rfl⟩
set_option maxHeartbeats 4000000 in
set_option maxRecDepth 100000 in
theorem blank_calls (n : Nat) (h1 : 1 ≤ n) (h2 : n ≤ 1000) (w : World) : Calls Tryd.prog 47 #[n64 n] w fun e w' => ∃ R, e = .returned (.slice (some ⟨R, 0, none⟩) n n) ∧ w.heap.size ≤ R ∧
    w'.heap[R]? = some (.cells (flatC (blanks n)).toArray 33 (0, 0)) ∧ Below w.heap.size w w' := by
  have BL := Lib.hid (fun w => show Calls Tryd.prog 53 #[] w fun e w' => e = .returned (.agg #[.string ⟨#[32]⟩, .int .i64 1, .bool false]) ∧ Below w.heap.size w w' from Blank_calls w)
  have RP := Lib.hid (fun b W hb => Repeat_calls b n 1 h1 h2 W hb)
  go_enter Tryd.func47, Tryd.ntmps47
  go_wp2_with (first
    | (go_at_call 53; (with_reducible refine (BL.out w).mono ?_); rintro e w1 ⟨rfl, b1⟩)
    | (go_at_call 52; (with_reducible refine (RP.out w1.heap.size _ (rd_blank w1)).mono ?_); rintro e w2 ⟨R, rfl, hR, hg2, b2⟩))
  have hb : Below w.heap.size w (w1.alloc (.cells #[.string ⟨#[32]⟩, .int .i64 1, .bool false] 33)) := b1.alloc b1.size _
  go_ret
  exact ⟨R, rfl, Nat.le_trans hb.size hR, hg2, hb.trans (b2.mono hb.size)⟩
/-- A terminal that was made: its columns, and its rows' slice. -/
def TmAt (w : World) (tb c : Nat) (v : Value) : Prop := ∃ r, w.heap[tb]? = some (.cells (#[n64 c, v] ++ r) 82 (0, 0))
abbrev tmRest : Array Value := #[.slice none 0 0, .int .i64 0, .int .i64 0, .int .i64 0, .bool false, .bool false, .int .i64 0, .string ⟨#[]⟩, .slice none 0 0]
def TmB (w : World) (tb c : Nat) (v : Value) : Prop := w.heap[tb]? = some (.cells #[n64 c, v, .slice none 0 0, .int .i64 0, .int .i64 0, .int .i64 0, .bool false, .bool false, .int .i64 0, .string ⟨#[]⟩, .slice none 0 0] 82 (0, 0))
theorem TmB.cells {w : World} {tb c : Nat} {v : Value} (h : TmB w tb c v) : w.cell? ⟨tb, 0, none⟩ = some (n64 c) ∧ w.cell? ⟨tb, 1, none⟩ = some v ∧ w.frozen? ⟨tb, 1, none⟩ = false := by
  unfold TmB at h; simp [World.cell?, World.frozen?, h]
theorem TmB.set {w : World} {tb c : Nat} {v : Value} (h : TmB w tb c v) (u : Value) : TmB (w.setCell ⟨tb, 1, none⟩ u) tb c u := by
  have := heap_setCell_same _ tb 1 _ _ u h
  exact this
set_option maxHeartbeats 4000000 in
set_option maxRecDepth 100000 in
theorem New_calls (a b : Int) (w : World) : Calls Tryd.prog 25 #[.int .i64 a, .int .i64 b] w fun e w' => ∃ tb A cp, e = .returned (.pointer (some ⟨tb, 0, none⟩)) ∧ w.heap.size ≤ tb ∧
    TmAt w' tb (clampN b 120) (.slice A (clampN a 60) cp) ∧ Below w.heap.size w w' := by
  have ra := clampN_range (n := a) (hi := 60) (by omega)
  have rb := clampN_range (n := b) (hi := 120) (by omega)
  have hc := cut_calls a b w
  obtain ⟨n, hn⟩ : ∃ n, n = clampN a 60 := ⟨_, rfl⟩
  obtain ⟨c, hcc⟩ : ∃ c, c = clampN b 120 := ⟨_, rfl⟩
  rw [← hn] at ra hc ⊢
  rw [← hcc] at rb hc ⊢
  have CU := Lib.hid hc
  have BK := Lib.hid (fun W => blank_calls c rb.1 (by omega) W)
  clear hc hn hcc
  go_enter Tryd.func25, Tryd.ntmps25
  go_wp2_with fail
  refine CU.out.mono ?_
  rintro e w' ⟨rfl, rfl⟩
  go_wp2_with fail
  have hfo : Tryd.prog.follows Departure.mixedOrders = true := by kernel_rfl
  obtain ⟨W0, hW0⟩ : ∃ W0, W0 = w.alloc (.cells #[n64 c, .slice none 0 0, .slice none 0 0, .int .i64 0, .int .i64 0, .int .i64 0, .bool false, .bool false, .int .i64 0, .string ⟨#[]⟩, .slice none 0 0] 82) := ⟨_, rfl⟩
  have t0 : TmB W0 w.heap.size c (.slice none 0 0) := by rw [hW0]; exact heap_alloc_new w _
  have b0 : Below w.heap.size w W0 := by rw [hW0]; exact (Below.refl _ w).alloc (Nat.le_refl _) _
  rw [← hW0]
  clear hW0 CU
  obtain ⟨B, hB⟩ : ∃ B, B = w.heap.size := ⟨_, rfl⟩
  rw [← hB] at t0 b0 ⊢
  have HB := Lib.hid hB
  have hBw : B ≤ w.heap.size := by omega
  clear hB
  have rb2 : c ≤ 120 := by omega
  have ra2 : n ≤ 60 := by omega
  go_loopw [16] (fun u16 wr => ∃ (k : Nat) (v : Value) (xs : List Value), u16 = n64 k ∧ k ≤ n ∧ TmB wr B c v ∧ Row wr B 31 1 v k xs ∧ Below B w wr) (fun u16 _ => (n - intOf u16).toNat)
  case atStart => exact ⟨0, _, [], rfl, Nat.zero_le _, t0, Row.nil _ _ _ _, b0⟩
  case round =>
    obtain ⟨k, v, xs, rfl, hk, ht, hrow, hb⟩ := hrel
    by_cases hlt : k < n
    · have q0 : decide ((k : Int) < (n : Int)) = true := by simpa using hlt
      have q1 : (k : Int) < (n : Int) := by omega
      obtain ⟨A, cp, hv, _⟩ := hrow.rd
      subst hv
      have HR := Lib.hid hrow
      have HT := Lib.hid ht
      have hbl := lt_of_heap ht
      have hBr : B ≤ wr.heap.size := Nat.le_of_lt hbl
      have HBW := Lib.hid hb
      have HC := Lib.hid (fun (W : World) (h : Below wr.heap.size wr W) => show TmB W B c _ from (h.block _ hbl).trans ht)
      have HC2 := Lib.hid (fun (W : World) (h : Below wr.heap.size wr W) => (HC.out W h).cells.2.1)
      have hbd : Below wr.heap.size wr wr.drew := (Below.refl _ wr).drew
      have kd1 := HC2.out _ hbd
      have e1 : (k + 1) * 24 ≤ 140737488355328 := by omega
      have e2 : k + 1 ≤ maxLen := by simp only [maxLen]; omega
      have e3 : ∀ R, ∀ u ∈ [rowV c R], u.oneCell' = true := fun R u hu => by simp at hu; subst hu; rfl
      have hne : (Value.slice A k cp).ownBlock ≠ some B := hrow.ne_box ht (by decide)
      clear ht hrow hb t0 b0 hBw
      go_wp2
      go_region_law (first
        | (refine step_append_row _ (by rfl) _ _ _ (by rfl) B 31 1 24 _ Tryd.underlying26 info_rows rfl (by decide) (.slice A k cp) _ xs (by rfl) (HR.out.below (hb2.alloc hb2.size _) (Nat.le_refl _)) (some ⟨w2.heap.size, 0, none⟩) 1 1 [rowV c R] (by rfl) rfl (Rd.new1 _ _ _) (e3 R) e1 e2 (Nat.le_trans hBr (hb2.alloc hb2.size _).size) ?_; intro A3 c3 w3 hrow3 hg3 hb3; have hx3 : TmB w3 B c (.slice A k cp) := (hg3.block B (Nat.lt_of_lt_of_le hbl (hb2.alloc hb2.size _).size) (fun e => hne e.symm)).trans (HC.out _ (hb2.alloc hb2.size _)); obtain ⟨g0, g1, f1⟩ := hx3.cells)
        | (go_simp; first
          | (go_at_call 47; (with_reducible refine (BK.out _).mono ?_); rintro e w2 ⟨R, rfl, hR, hg2, b2⟩; have hb2 : Below wr.heap.size wr w2 := hbd.trans b2; have u0 := HC2.out _ hb2; have u1 := HC2.out _ (hb2.alloc hb2.size (.cells #[rowV c R] 31))); dsimp only))
      all_goals
        have hrow4 : Row (w3.setCell ⟨B, 1, none⟩ (.slice A3 (k + 1) c3)) B 31 1 (.slice A3 (k + 1) c3) (k + 1) (xs ++ [rowV c R]) := hrow3.at_ fun j hj => heap_setCell_other _ _ _ _ (fun e => hrow3.ne_box hx3 (by decide) (by rw [hj]; exact congrArg some e))
        have hb4 : Below B w (w3.setCell ⟨B, 1, none⟩ (.slice A3 (k + 1) c3)) := ((HBW.out.trans ((hb2.mono hBr).alloc (Nat.le_trans hBr hb2.size) _)).grown hg3 (Nat.le_trans hBr (hb2.alloc hb2.size _).size) (fun j ej => (HR.out.lt j ej).1)).setCell (p := ⟨B, 1, none⟩) (Nat.le_refl _) _
        have H4 := Lib.hid hrow4
        have H5 := Lib.hid hb4
        have H6 := Lib.hid (hx3.set (.slice A3 (k + 1) c3))
        clear hrow4 hb4 hx3 hrow3 hg3 hb3 g0 g1 f1
        go_wp2
        go_roundw
        case rel => exact ⟨k + 1, _, _, by go_num, by omega, H6.out, H4.out, H5.out⟩
        case measure => simp [intOf]; omega
    · obtain rfl : k = n := by omega
      obtain ⟨A, cp, hv, _⟩ := hrow.rd
      subst hv
      go_wp2
      go_ret
      exact ⟨_, _, _, rfl, by rw [← HB.out]; exact Nat.le_refl _, ⟨tmRest, ht⟩, HB.out ▸ hb⟩
theorem below_drewN (w : World) (n : Nat) : Below w.heap.size w (w.drewN n) := ⟨rfl, rfl, rfl, Nat.le_refl _, fun _ _ => rfl⟩
theorem Size_calls {w : World} {tb c n cp : Nat} {A : Option Addr} (h : TmAt w tb c (.slice A n cp)) : Calls Tryd.prog 26 #[bptr tb] w fun e w' => e = .returned (.tuple #[n64 n, n64 c]) ∧ Below w.heap.size w w' := by
  obtain ⟨r, hr⟩ := h
  have c0 : w.cell? ⟨tb, 0, none⟩ = some (n64 c) := by rw [cell_of_row _ _ _ _ _ (0, 0) hr]; rw [Array.getElem?_append_left (by simp)]; rfl
  have c1 : w.cell? ⟨tb, 1, none⟩ = some (.slice A n cp) := by rw [cell_of_row _ _ _ _ _ (0, 0) hr]; rw [Array.getElem?_append_left (by simp)]; rfl
  clear hr
  go_enter Tryd.func26, Tryd.ntmps26
  go_wp2_with fail
  go_quiet (fail)
  go_wp2
  go_ret2
  exact ⟨rfl, below_drewN _ _⟩
theorem TmAt.later {w w' : World} {tb c : Nat} {v : Value} (h : TmAt w tb c v) (hb : Below w.heap.size w w') : TmAt w' tb c v := by
  obtain ⟨r, hr⟩ := h
  exact ⟨r, (hb.block _ (lt_of_heap hr)).trans hr⟩
end Go.Proofs.YtfgjhfmgacopoaaDoor
