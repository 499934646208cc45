import Derived.Test.YtcifakmlfndlaaaDoorTt3
import Derived.Deep.RegionHeld3
namespace Go.Proofs.YtcifakmlfndlaaaDoor
set_option linter.unusedVariables false
set_option linter.unusedSimpArgs false
open Go.RowKit Go.Shelf
/-- A line, as it is handed on. -/
abbrev bufV (s : Bs) (a : Nat) : Value := .agg #[.string ⟨s.toArray⟩, .int .i64 (a : Int)]
/-- Two cells, both written. -/
theorem buf_set {w : World} {b : Nat} {T : TypeId} {x0 y0 : Value} (h : w.heap[b]? = some (.cells #[x0, y0] T (0, 0))) (x y : Value) :
    ∃ W, (w.setCell ⟨b, 0, none⟩ x).setCell ⟨b, 1, none⟩ y = W ∧ W.heap[b]? = some (.cells #[x, y] T (0, 0)) ∧ W.cell? ⟨b, 0, none⟩ = some x ∧ W.cell? ⟨b, 1, none⟩ = some y ∧ (∀ (B : Nat) (w0 : World), B ≤ b → Below B w0 w → Below B w0 W) := by
  have h1 := heap_setCell_same w b 0 _ _ x h
  have h2 := heap_setCell_same (w.setCell ⟨b, 0, none⟩ x) b 1 _ _ y h1
  refine ⟨_, rfl, h2, ?_, ?_, fun B w0 hB hb => (hb.setCell (p := ⟨b, 0, none⟩) hB x).setCell (p := ⟨b, 1, none⟩) hB y⟩
  · rw [cell_of_row _ _ _ _ _ (0, 0) h2]; rfl
  · rw [cell_of_row _ _ _ _ _ (0, 0) h2]; rfl
set_option maxHeartbeats 800000 in
/-- Make. -/
theorem Make_calls (l : Bs) (hl : l.length ≤ 1000000000) (s : ByteArray) (hs : s = ⟨l.toArray⟩) (a : Int) (w : World) (hU : U8 w) :
    Calls Tryd.prog 12 #[.string s, .int .i64 a] w fun e w' => e = .returned (bufV (mkS l) (back (mkS l) a)) ∧ Below w.heap.size w w' := by
  have hpl := pl_len l
  have q1 := fun (W : World) (h : U8 W) => Plain_calls l hl s hs W h
  have Q1 := Lib.hid q1
  have HU := Lib.hid hU
  obtain ⟨p, hp⟩ : ∃ p, p = pl l := ⟨_, rfl⟩
  obtain ⟨bp, hbp⟩ : ∃ s : ByteArray, s = ⟨p.toArray⟩ := ⟨_, rfl⟩
  have hsz : bp.size = p.length := by rw [hbp, str_of]
  rw [← hp] at hpl Q1
  have hmk : mkS l = if 600 < p.length then p.take (back p 600) else p := by rw [hp]; rfl
  have HMK := Lib.hid hmk
  have HBP := Lib.hid hbp
  clear q1 hU hs hp hmk hbp
  by_cases h6 : 600 < bp.size
  · have hd : decide ((600 : Int) < (bp.size : Int)) = true := by simp; omega
    have q2 := fun (W : World) => back_calls p (by omega) bp HBP.out 600 W
    have Q2 := Lib.hid q2
    obtain ⟨k, hk⟩ : ∃ k, k = back p 600 := ⟨_, rfl⟩
    have hkl := back_le p 600
    rw [← hk] at Q2 hkl
    have hmk2 : mkS l = p.take k := by rw [HMK.out, if_pos (by omega), hk]
    obtain ⟨bq, hbq⟩ : ∃ s : ByteArray, s = bp.extract 0 k := ⟨_, rfl⟩
    have hbq2 : bq = ⟨(mkS l).toArray⟩ := by rw [hbq, HBP.out, extract_eq, hmk2]; simp
    have hml := mkS_len l
    have q3 := fun (W : World) => back_calls (mkS l) (by omega) bq hbq2 a W
    have Q3 := Lib.hid q3
    have HB := Lib.hid hbq
    have HB2 := Lib.hid hbq2
    have hk0 : (0 : Int) ≤ (k : Int) := by omega
    have hk1 : (k : Int) ≤ (bp.size : Int) := by omega
    clear q2 hk hmk2 hbq hbq2 q3
    go_enter Tryd.func12, Tryd.ntmps12
    go_wp2_with fail
    refine (Q1.out _ (HU.out.later ((Below.refl _ w).alloc (Nat.le_refl _) _))).mono ?_
    rintro e w1 ⟨rfl, hb1⟩
    rw [← HBP.out]
    have hs1 := hb1.size
    rw [World.size_alloc] at hs1
    go_wp2_with fail
    refine (Q2.out _).mono ?_
    rintro e w2 ⟨rfl, hb2⟩
    have hs2 := hb2.size
    go_wp2_with fail
    rw [← HB.out]
    refine (Q3.out _).mono ?_
    rintro e w3 ⟨rfl, hb3⟩
    have hs3 := hb3.size
    have hc : w3.heap[w.heap.size]? = some (.cells #[.string ⟨#[]⟩, .int .i64 0] 25 (0, 0)) := by
      rw [hb3.block _ (by omega), hb2.block _ (by omega), hb1.block _ (by simp)]
      exact heap_alloc_new w _
    have B3 : Below w.heap.size w w3 := (((Below.refl _ w).alloc (Nat.le_refl _) _).trans (hb1.mono (by simp))).trans ((hb2.mono (by omega)).trans (hb3.mono (by omega)))
    have d0 := frozen_of_row w3 w.heap.size 0 _ _ hc
    have d1 := frozen_of_row w3 w.heap.size 1 _ _ hc
    have c0 : w3.cell? ⟨w.heap.size, 0, none⟩ = some (.string ⟨#[]⟩) := by rw [cell_of_row w3 _ _ _ _ (0, 0) hc]; rfl
    have c1 : w3.cell? ⟨w.heap.size, 1, none⟩ = some (.int .i64 0) := by rw [cell_of_row w3 _ _ _ _ (0, 0) hc]; rfl
    have HC := Lib.hid hc
    clear hc
    go_wp2
    obtain ⟨W4, e4, _, r0, r1, b4⟩ := buf_set HC.out (.string bq) (.int .i64 (back (mkS l) a : Int))
    rw [e4]
    exact bodyPost_ret (v := .agg #[.string bq, .int .i64 (back (mkS l) a : Int)]) (by simp [results, Tryd.results12, go_sem, r0, r1]) rfl ⟨by rw [HB2.out], b4 _ _ (Nat.le_refl _) B3⟩
  · have hd : decide ((600 : Int) < (bp.size : Int)) = false := by simp; omega
    have hmk2 : mkS l = p := by rw [HMK.out, if_neg (by omega)]
    have hbq2 : bp = ⟨(mkS l).toArray⟩ := by rw [hmk2]; exact HBP.out
    have hml := mkS_len l
    have q3 := fun (W : World) => back_calls (mkS l) (by omega) bp hbq2 a W
    have Q3 := Lib.hid q3
    have HB2 := Lib.hid hbq2
    clear hmk2 hbq2 q3
    go_enter Tryd.func12, Tryd.ntmps12
    go_wp2_with fail
    refine (Q1.out _ (HU.out.later ((Below.refl _ w).alloc (Nat.le_refl _) _))).mono ?_
    rintro e w1 ⟨rfl, hb1⟩
    rw [← HBP.out]
    have hs1 := hb1.size
    rw [World.size_alloc] at hs1
    go_wp2_with fail
    refine (Q3.out _).mono ?_
    rintro e w3 ⟨rfl, hb3⟩
    have hs3 := hb3.size
    have hc : w3.heap[w.heap.size]? = some (.cells #[.string ⟨#[]⟩, .int .i64 0] 25 (0, 0)) := by
      rw [hb3.block _ (by omega), hb1.block _ (by simp)]
      exact heap_alloc_new w _
    have B3 : Below w.heap.size w w3 := (((Below.refl _ w).alloc (Nat.le_refl _) _).trans (hb1.mono (by simp))).trans (hb3.mono (by omega))
    have d0 := frozen_of_row w3 w.heap.size 0 _ _ hc
    have d1 := frozen_of_row w3 w.heap.size 1 _ _ hc
    have c0 : w3.cell? ⟨w.heap.size, 0, none⟩ = some (.string ⟨#[]⟩) := by rw [cell_of_row w3 _ _ _ _ (0, 0) hc]; rfl
    have c1 : w3.cell? ⟨w.heap.size, 1, none⟩ = some (.int .i64 0) := by rw [cell_of_row w3 _ _ _ _ (0, 0) hc]; rfl
    have HC := Lib.hid hc
    clear hc
    go_wp2
    obtain ⟨W4, e4, _, r0, r1, b4⟩ := buf_set HC.out (.string bp) (.int .i64 (back (mkS l) a : Int))
    rw [e4]
    exact bodyPost_ret (v := .agg #[.string bp, .int .i64 (back (mkS l) a : Int)]) (by simp [results, Tryd.results12, go_sem, r0, r1]) rfl ⟨by rw [HB2.out], b4 _ _ (Nat.le_refl _) B3⟩
end Go.Proofs.YtcifakmlfndlaaaDoor
namespace Go.Proofs.YtcifakmlfndlaaaDoor
set_option linter.unusedVariables false
set_option linter.unusedSimpArgs false
open Go.RowKit Go.Shelf
def prevN (l : Bs) (a : Int) : Nat := back (mkS l) ((back (mkS l) a : Int) - 1)
def nextN (l : Bs) (a : Int) : Nat := on (mkS l) ((back (mkS l) a : Int) + 1)
set_option maxRecDepth 100000 in
set_option maxHeartbeats 800000 in
theorem Pv_calls (l : Bs) (hl : l.length ≤ 1000000000) (s : ByteArray) (hs : s = ⟨l.toArray⟩) (a : Int) (w : World) (hU : U8 w) :
    Calls Tryd.prog 25 #[.string s, .int .i64 a] w fun e w' => e = .returned (n64 (prevN l a)) ∧ Below w.heap.size w w' := by
  have hml := mkS_len l
  obtain ⟨bq, hbq⟩ : ∃ s : ByteArray, s = ⟨(mkS l).toArray⟩ := ⟨_, rfl⟩
  have q1 := Make_calls l hl s hs 0 w hU
  obtain ⟨k0, hk0⟩ : ∃ k, k = back (mkS l) 0 := ⟨_, rfl⟩
  rw [show bufV (mkS l) (back (mkS l) 0) = .agg #[.string bq, .int .i64 (k0 : Int)] by rw [hbq, hk0]] at q1
  have q3 := fun (W : World) => back_calls (mkS l) (by omega) bq hbq a W
  have q2 := fun (b : Int) (W : World) => back_calls (mkS l) (by omega) bq hbq b W
  have hle := back_le (mkS l) a
  have hp : prevN l a = back (mkS l) ((back (mkS l) a : Int) - 1) := rfl
  obtain ⟨k, hk⟩ : ∃ k, k = back (mkS l) a := ⟨_, rfl⟩
  rw [← hk] at hp hle q3
  have hk6 : k ≤ 600 := by omega
  have HP := Lib.hid hp
  have Q1 := Lib.hid q1
  have Q2 := Lib.hid q2
  have Q3 := Lib.hid q3
  clear q1 q2 q3 hp hk hbq hs hU hl hml hle hk0
  have hfld : ∀ (W : World), (Instr.field 25 (.agg #[.string bq, .int .i64 (k0 : Int)]) 0).run Tryd.prog W = .ok (.string bq) W := fun _ => by kernel_rfl
  go_enter Tryd.func25, Tryd.ntmps25
  go_wp2_with fail
  refine Q1.out.mono ?_
  rintro e w1 ⟨rfl, hb1⟩
  go_wp2_with fail
  refine (Q3.out w1).mono ?_
  rintro e w2 ⟨rfl, hb2⟩
  go_wp2_with fail
  refine (Q2.out _ w2).mono ?_
  rintro e w3 ⟨rfl, hb3⟩
  go_wp2
  go_ret
  exact ⟨by rw [HP.out]; rfl, (hb1.trans (hb2.mono hb1.size)).trans (hb3.mono (Nat.le_trans hb1.size hb2.size))⟩
set_option maxHeartbeats 800000 in
theorem Nx_calls (l : Bs) (hl : l.length ≤ 1000000000) (s : ByteArray) (hs : s = ⟨l.toArray⟩) (a : Int) (w : World) (hU : U8 w) :
    Calls Tryd.prog 26 #[.string s, .int .i64 a] w fun e w' => e = .returned (n64 (nextN l a)) ∧ Below w.heap.size w w' := by
  have hml := mkS_len l
  obtain ⟨bq, hbq⟩ : ∃ s : ByteArray, s = ⟨(mkS l).toArray⟩ := ⟨_, rfl⟩
  have q1 := Make_calls l hl s hs 0 w hU
  obtain ⟨k0, hk0⟩ : ∃ k, k = back (mkS l) 0 := ⟨_, rfl⟩
  rw [show bufV (mkS l) (back (mkS l) 0) = .agg #[.string bq, .int .i64 (k0 : Int)] by rw [hbq, hk0]] at q1
  have q3 := fun (W : World) => back_calls (mkS l) (by omega) bq hbq a W
  have q2 := fun (b : Int) (W : World) => on_calls (mkS l) (by omega) bq hbq b W
  have hle := back_le (mkS l) a
  have hp : nextN l a = on (mkS l) ((back (mkS l) a : Int) + 1) := rfl
  obtain ⟨k, hk⟩ : ∃ k, k = back (mkS l) a := ⟨_, rfl⟩
  rw [← hk] at hp hle q3
  have hk6 : k ≤ 600 := by omega
  have HP := Lib.hid hp
  have Q1 := Lib.hid q1
  have Q2 := Lib.hid q2
  have Q3 := Lib.hid q3
  clear q1 q2 q3 hp hk hbq hs hU hl hml hle hk0
  have hfld : ∀ (W : World), (Instr.field 25 (.agg #[.string bq, .int .i64 (k0 : Int)]) 0).run Tryd.prog W = .ok (.string bq) W := fun _ => by kernel_rfl
  go_enter Tryd.func26, Tryd.ntmps26
  go_wp2_with fail
  refine Q1.out.mono ?_
  rintro e w1 ⟨rfl, hb1⟩
  go_wp2_with fail
  refine (Q3.out w1).mono ?_
  rintro e w2 ⟨rfl, hb2⟩
  go_wp2_with fail
  refine (Q2.out _ w2).mono ?_
  rintro e w3 ⟨rfl, hb3⟩
  go_wp2
  go_ret
  exact ⟨by rw [HP.out]; rfl, (hb1.trans (hb2.mono hb1.size)).trans (hb3.mono (Nat.le_trans hb1.size hb2.size))⟩
/-- A buffer's two cells. -/
theorem buf_cells {W : World} {b : Nat} {T : TypeId} {x y : Value} (h : W.heap[b]? = some (.cells #[x, y] T (0, 0))) : W.cell? ⟨b, 0, none⟩ = some x ∧ W.cell? ⟨b, 1, none⟩ = some y ∧ W.frozen? ⟨b, 0, none⟩ = false ∧ W.frozen? ⟨b, 1, none⟩ = false :=
  ⟨by rw [cell_of_row W _ _ _ _ (0, 0) h]; rfl, by rw [cell_of_row W _ _ _ _ (0, 0) h]; rfl, frozen_of_row W _ 0 _ _ h, frozen_of_row W _ 1 _ _ h⟩
/-- slices.Contains of a row of ints. -/
theorem Contains_calls (W : World) (A : Option Addr) (c : Nat) (bs : List Nat) (hr : Rd W A (bs.map n64)) (hl : bs.length ≤ 9223372036854775807) (x : Int) :
    Calls Tryd.prog 32 #[.slice A bs.length c, .int .i64 x] W fun e w' => e = .returned (.bool ((bs.map (fun (y : Nat) => (y : Int))).contains x)) ∧ w' = W := by
  cases bs with
  | nil => exact Tryd.slices_Contains_int_empty A c x W
  | cons y bs =>
    obtain ⟨g, off, rfl, _⟩ := hr 0 (n64 y) rfl
    have := Tryd.slices_Contains_int g off (y :: bs).length c ((y :: bs).map (fun (y : Nat) => (y : Int))) x W (by simp) (by omega) (fun j hj => by
      rw [List.length_map] at hj
      obtain ⟨g2, off2, e2, h2⟩ := hr j (n64 ((y :: bs)[j]'hj)) (by rw [List.getElem?_map, List.getElem?_eq_getElem hj]; rfl)
      cases e2
      rw [h2]
      have : ((y :: bs).map (fun (y : Nat) => (y : Int))).getD j 0 = (((y :: bs)[j]'hj : Nat) : Int) := by
        rw [List.getD_eq_getElem?_getD, List.getElem?_map, List.getElem?_eq_getElem hj]; rfl
      rw [this])
    rw [List.take_of_length_le (by simp)] at this
    exact this
end Go.Proofs.YtcifakmlfndlaaaDoor
