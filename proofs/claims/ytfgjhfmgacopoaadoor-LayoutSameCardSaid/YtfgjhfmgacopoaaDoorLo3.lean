import Derived.Test.YtfgjhfmgacopoaaDoorLo2
namespace Go.Proofs.YtfgjhfmgacopoaaDoor
set_option linter.unusedVariables false
set_option linter.unusedSimpArgs false
open Go.RowKit Go.Shelf
/-! Chapter 18: slices.Repeat of one blank cell. -/
theorem info_cell : (Tryd.prog.info? 33).map (fun i => (i.zero, i.size, i.bytes)) = some (some (aggC ⟨[], 0, false⟩), 3, 32) := by kernel_rfl
theorem size_cell : (Tryd.prog.info? 33).map (·.size) = some 3 := by kernel_rfl
theorem make_cells (n : Nat) (h : n ≤ 1000000) : ∃ Z : List Value, Z.length = n * 3 ∧ ∀ w : World, (Instr.makeSlice 31 (n64 n) (n64 n)).run Tryd.prog w = .ok (.slice (some ⟨w.heap.size, 0, none⟩) n n) (w.alloc (.cells Z.toArray 33)) := by
  obtain ⟨i, hi, hq⟩ := Option.map_eq_some_iff.1 info_cell
  simp only [Prod.mk.injEq] at hq
  obtain ⟨q1, q2, q3⟩ := hq
  refine ⟨(madeCells (aggC ⟨[], 0, false⟩).cells (n * 3)).toList, by simp [size_madeCells], fun w => ?_⟩
  have := run_make (P := Tryd.prog) w 31 33 i (aggC ⟨[], 0, false⟩) Tryd.underlying31 hi q1 .i64 .i64 n n (by omega) (Int.le_refl _) (by rw [q3]; omega) (by omega)
  rw [q2] at this
  simpa using this
theorem blanks_app (a b : Nat) : blanks a ++ blanks b = blanks (a + b) := by unfold blanks; rw [List.replicate_append_replicate]
theorem blanks_len (n : Nat) : (blanks n).length = n := by simp [blanks]
/-- A row of blanks, doubled. -/
theorem splice_blanks (m k : Nat) (rest : List Value) (h : k * 3 ≤ rest.length) : splice (flatC (blanks m) ++ rest) (m * 3) (flatC (blanks k)) = flatC (blanks (m + k)) ++ rest.drop (k * 3) := by
  unfold splice
  have e : (flatC (blanks m)).length = m * 3 := by rw [flatC_len, blanks_len]
  have e2 : (flatC (blanks k)).length = k * 3 := by rw [flatC_len, blanks_len]
  rw [List.take_left' e, ← blanks_app, flatC_app, List.append_assoc, e2, List.drop_append, List.drop_eq_nil_of_le (by omega), e, List.nil_append, show m * 3 + k * 3 - m * 3 = k * 3 by omega]
set_option maxHeartbeats 4000000 in
set_option maxRecDepth 100000 in
theorem Repeat_calls (b N c : Nat) (h1 : 1 ≤ N) (h2 : N ≤ 1000) (w : World) (hb : Rd w (some ⟨b, 0, none⟩) (flatC [blankC])) :
    Calls Tryd.prog 52 #[.slice (some ⟨b, 0, none⟩) 1 c, n64 N] w fun e w' => ∃ R, e = .returned (.slice (some ⟨R, 0, none⟩) N N) ∧ w.heap.size ≤ R ∧
      w'.heap[R]? = some (.cells (flatC (blanks N)).toArray 33 (0, 0)) ∧ Below w.heap.size w w' := by
  obtain ⟨Z, hZ, hmk⟩ := make_cells N (by omega)
  have hmul : ∀ w, Calls Tryd.prog 61 #[.int .u64 1, .int .u64 N] w fun e w' => e = .returned (.tuple #[.int .u64 0, .int .u64 N]) ∧ w = w' := fun w => by
    have := Tryd.bits_Mul 1 N (by omega) (by omega) w
    rw [show 1 * N / 18446744073709551616 = 0 by omega, show 1 * N % 18446744073709551616 = N by omega] at this
    exact this.mono fun _ _ h => ⟨h.1, h.2.symm⟩
  have HM := Lib.hid hmul
  have mixed : Tryd.prog.follows .mixedOrders = true := by kernel_rfl
  have hlt : b < w.heap.size := hb.lt rfl (by simp [flatC, cellV])
  have e0 : decide ((N : Int) < 0) = false := by simp
  have e0' : ¬ ((N : Int) < 0) := by omega
  have e1 : IntKind.u64.wrap (N : Int) = N := by rw [IntKind.wrap_u64]; omega
  have e2 : IntKind.i64.wrap (N : Int) = N := by rw [IntKind.wrap_i64]; omega
  have e3 : decide ((9223372036854775807 : Int) < (N : Int)) = false := by simp; omega
  have e3' : ¬ ((9223372036854775807 : Int) < (N : Int)) := by omega
  have hcp : ∀ dc sc ty, (Builtin.copy_ #[31, 31] ty #[.slice (some ⟨w.heap.size, 0, none⟩) N dc, .slice (some ⟨b, 0, none⟩) 1 sc]).run Tryd.prog (w.alloc (.cells Z.toArray 33)) =
      .ok (goInt 1) ((w.alloc (.cells Z.toArray 33)).setRow w.heap.size (splice Z 0 (flatC [blankC])).toArray) := fun dc sc ty => by
    exact run_copy_sz (P := Tryd.prog) (w.alloc (.cells Z.toArray 33)) 31 31 ty 33 3 w.heap.size 0 N dc ⟨b, 0, none⟩ 1 sc Z 33 (flatC [blankC]) Tryd.underlying31 size_cell
      (heap_alloc_last w _) 1 (Nat.min_eq_left h1) rfl (hb.later ((Below.refl _ w).alloc (Nat.le_refl _) _)) (by rw [hZ]; simp [flatC, cellV]; omega) (flatC_one _)
  obtain ⟨W1, hW1⟩ : ∃ W1, W1 = (w.alloc (.cells Z.toArray 33)).setRow w.heap.size (splice Z 0 (flatC [blankC])).toArray := ⟨_, rfl⟩
  have g1 : W1.heap[w.heap.size]? = some (.cells (flatC (blanks 1) ++ Z.drop 3).toArray 33 (0, 0)) := by
    rw [hW1, setRow_heap _ _ _ _ _ _ (heap_alloc_last w _)]
    rfl
  have b1 : Below w.heap.size w W1 := by
    rw [hW1]; exact setRow_below ((Below.refl _ w).alloc (Nat.le_refl _) _) _ _ (Nat.le_refl _)
  rw [← hW1] at hcp
  clear hmul hb hW1
  go_enter Tryd.func52, Tryd.ntmps52
  go_wp2_with (first
    | (refine (HM.out _).mono ?_; rintro e w2 ⟨rfl, rfl⟩)
    | (at_builtin; refine wpList_copy_runI _ rfl _ _ 31 31 rfl _ _ rfl rfl (hcp _ _ _) ?_))
  obtain ⟨R, hR⟩ : ∃ R, R = w.heap.size := ⟨_, rfl⟩
  have hRl : w.heap.size ≤ R := by omega
  rw [← hR] at g1 ⊢
  have hD : (Z.drop 3).length = (N - 1) * 3 := by rw [List.length_drop]; omega
  obtain ⟨D, hDD⟩ : ∃ D, D = Z.drop 3 := ⟨_, rfl⟩
  rw [← hDD] at g1 hD
  clear hcp hmk HM hDD hZ hR
  go_loopw [8] (fun u8 wr => ∃ (m : Nat) (rest : List Value), u8 = n64 m ∧ 1 ≤ m ∧ m ≤ N ∧ rest.length = (N - m) * 3 ∧ wr.heap[R]? = some (.cells (flatC (blanks m) ++ rest).toArray 33 (0, 0)) ∧ Below w.heap.size w wr) (fun u8 _ => (N - intOf u8).toNat)
  case atStart => exact ⟨1, D, rfl, Nat.le_refl _, h1, hD, g1, b1⟩
  case round =>
    obtain ⟨m, rest, rfl, m1, m2, hr, g, bel⟩ := hrel
    by_cases hlt : m < N
    · have q0 : decide ((m : Int) < (N : Int)) = true := by simpa using hlt
      have q1 : (m : Int) < (N : Int) := by omega
      have q2 : ¬ N = m := by omega
      obtain ⟨k, hk⟩ : ∃ k, k = min m (N - m) := ⟨_, rfl⟩
      have q3 : IntKind.i64.wrap ((m : Int) + (k : Int)) = ((m + k : Nat) : Int) := by rw [IntKind.wrap_i64]; omega
      have hcp : ∀ dc sc ty, (Builtin.copy_ #[31, 31] ty #[.slice (some ⟨R, m * 3, none⟩) (N - m) dc, .slice (some ⟨R, 0, none⟩) m sc]).run Tryd.prog wr.drew =
          .ok (goInt k) (wr.drew.setRow R (splice (flatC (blanks m) ++ rest) (m * 3) (flatC (blanks k))).toArray) := fun dc sc ty =>
        run_copy_sz (P := Tryd.prog) wr.drew 31 31 ty 33 3 R (m * 3) (N - m) dc ⟨R, 0, none⟩ m sc _ 33 (flatC (blanks k)) Tryd.underlying31 size_cell
          g k hk.symm (by rw [flatC_len, blanks_len]) (fun j v hj => ⟨R, 0, rfl, by
            rw [Nat.zero_add]
            have hjl := (List.getElem?_eq_some_iff.1 hj).1
            rw [flatC_len, blanks_len] at hjl
            have e : blanks m = blanks k ++ blanks (m - k) := by rw [blanks_app]; congr 1; omega
            have hj2 : (flatC (blanks m) ++ rest)[j]? = some v := by
              rw [e, flatC_app, List.append_assoc, List.getElem?_append_left (by rw [flatC_len, blanks_len]; exact hjl)]
              exact hj
            show wr.cell? _ = _
            simp only [World.cell?, g]
            simpa using hj2⟩) (by rw [List.length_append, flatC_len, flatC_len, blanks_len, blanks_len, hr]; omega) (flatC_one _)
      rw [splice_blanks m k rest (by rw [hr]; omega)] at hcp
      have HK := Lib.hid hk
      have g2 : (wr.drew.setRow R (flatC (blanks (m + k)) ++ rest.drop (k * 3)).toArray).heap[R]? = some (.cells (flatC (blanks (m + k)) ++ rest.drop (k * 3)).toArray 33 (0, 0)) := setRow_heap _ _ _ _ _ _ g
      have b2 : Below w.heap.size w (wr.drew.setRow R (flatC (blanks (m + k)) ++ rest.drop (k * 3)).toArray) := setRow_below (bel.drew) _ _ hRl
      obtain ⟨W2, hW2⟩ : ∃ W2, W2 = wr.drew.setRow R (flatC (blanks (m + k)) ++ rest.drop (k * 3)).toArray := ⟨_, rfl⟩
      rw [← hW2] at hcp g2 b2
      have hD2 : (rest.drop (k * 3)).length = (N - (m + k)) * 3 := by rw [List.length_drop, hr]; omega
      obtain ⟨D2, hDD2⟩ : ∃ D2, D2 = rest.drop (k * 3) := ⟨_, rfl⟩
      rw [← hDD2] at g2 hD2
      have G := Lib.hid g2
      have HB := Lib.hid b2
      clear hk g2 b2 hW2 hDD2 g bel hr
      go_wp2
      go_region_law_o (refine step_copy_runI rfl _ _ 31 31 rfl _ _ (by simp [Act.eval, Act.put]) (by simp [Act.eval, Act.put]) (hcp _ _ _) ?_)
      go_simp
      go_roundw
      case rel =>
        exact ⟨_, _, _, _, _, _, _, _, _, _, _, _, _, _, ⟨m + k, D2, by go_num, by have := HK.out; omega, by have := HK.out; omega, hD2, G.out, HB.out⟩, rfl⟩
      case measure => have := HK.out; simp [intOf]; omega
    · obtain rfl : m = N := by omega
      obtain rfl : rest = [] := List.eq_nil_of_length_eq_zero (by rw [hr]; omega)
      rw [List.append_nil] at g
      go_wp2
      go_ret
      exact ⟨R, rfl, hRl, g, bel⟩
end Go.Proofs.YtfgjhfmgacopoaaDoor
