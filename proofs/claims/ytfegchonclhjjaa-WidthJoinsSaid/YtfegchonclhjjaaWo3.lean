import Derived.Test.YtfegchonclhjjaaWo2
namespace Go.Proofs.Ytfegchonclhjjaa
open Go.RowKit
theorem flat2_get (l : List (Int × Int)) : ∀ k p, l[k]? = some p → (flat2 l)[k * 2]? = some (.int .i32 p.1) ∧ (flat2 l)[k * 2 + 1]? = some (.int .i32 p.2) := by
  induction l with
  | nil => intro k p h; simp at h
  | cons q t ih =>
    intro k p h
    have e : flat2 (q :: t) = .int .i32 q.1 :: .int .i32 q.2 :: flat2 t := rfl
    rw [e]
    cases k with
    | zero => simp at h; subst h; exact ⟨rfl, rfl⟩
    | succ k =>
      have := ih k p (by simpa using h)
      rw [show (k + 1) * 2 = k * 2 + 1 + 1 by omega]
      simpa using this
theorem rgs_row {w : World} {b : Nat} {T : TypeId} {l : List (Int × Int)} (h : w.heap[b]? = some (.cells (flat2 l).toArray T (0, 0))) : Rgs w b l := fun k p hk => by
  have := flat2_get l k p hk
  rw [cell_of_row w b _ _ T (0, 0) h, cell_of_row w b _ _ T (0, 0) h]
  simpa using this
def noneZ : Array Value := #[.int .i32 0, .int .i32 0, .int .i32 0, .int .i32 0, .int .i32 0, .int .i32 0, .int .i32 0, .int .i32 0, .int .i32 0, .int .i32 0, .int .i32 0, .int .i32 0, .int .i32 0, .int .i32 0]
theorem setRow_below {w0 w : World} {B : Nat} (h : Below B w0 w) (g : Nat) (cs : Array Value) (hg : B ≤ g) : Below B w0 (w.setRow g cs) :=
  ⟨h.os, h.tape, h.output, by rw [setRow_size]; exact h.size, fun k hk => by rw [setRow_other w g k cs (by omega)]; exact h.block k hk⟩
theorem heap_two (w : World) (o o2 : Obj) (cn : Array Value) : (((w.alloc o).alloc o2).setRow w.heap.size cn).heap[w.heap.size + 1]? = some o2 := by
  rw [setRow_other _ _ _ _ (by omega)]
  have := heap_alloc_last (w.alloc o) o2
  rwa [World.size_alloc] at this
theorem two_rows (w : World) (z z2 cn cw : Array Value) (T T2 : TypeId) : ∃ W, W = ((((w.alloc (.cells z T)).alloc (.cells z2 T2)).setRow w.heap.size cn).setRow (w.heap.size + 1) cw) ∧
    W.heap[w.heap.size]? = some (.cells cn T (0, 0)) ∧ W.heap[w.heap.size + 1]? = some (.cells cw T2 (0, 0)) ∧ Below w.heap.size w W := by
  refine ⟨_, rfl, ?_, ?_, ?_⟩
  · rw [setRow_other _ _ _ _ (by omega)]
    exact setRow_heap _ _ z _ _ _ ((Below.heap_alloc _ _ _ (by simp)).trans (heap_alloc_last w _))
  · exact setRow_heap _ _ z2 _ _ _ (heap_two w _ _ _)
  · exact setRow_below (setRow_below (((Below.refl _ w).alloc (Nat.le_refl _) _).alloc (by simp) _) _ _ (Nat.le_refl _)) _ _ (by omega)
set_option maxRecDepth 100000 in
set_option maxHeartbeats 1000000 in
theorem Of_calls (r : Int) (w : World) :
    Calls Try.prog 11 #[.int .i32 r] w fun e w' => e = .returned (.int .i64 (wof r)) ∧ Below w.heap.size w w' := by
  go_enter Try.func11, Try.ntmps11
  go_wp2_with (first
    | (go_at_call 29; refine (none_calls w).mono ?_; rintro e w1 ⟨rfl, hb1⟩; generalize hcn : (flat2 noneL).toArray = cn; have HCN := Lib.hid hcn; clear hcn)
    | (go_at_call 30; refine (wide_calls w1).mono ?_; rintro e w2 ⟨rfl, hb2⟩; have hcw := wideC_eq; generalize wideC = cw at hcw; have HCW := Lib.hid hcw; clear hcw)
    | (refine wpList_store_row (by rfl) 44 _ _ (by rfl) w2.heap.size cn (by rfl) (by rfl) 44 noneZ ((Below.heap_alloc _ _ _ (by simp)).trans (heap_alloc_last w2 _)) (by rw [← HCN.out]; as_aux_lemma => kernel_rfl) (by rw [← HCN.out]; as_aux_lemma => kernel_rfl) (by rw [← HCN.out]; as_aux_lemma => kernel_rfl) ?_)
    | (refine wpList_store_row (by rfl) 46 _ _ (by rfl) (w2.heap.size + 1) cw (by rfl) (by rfl) 46 wideZ (heap_two w2 _ _ _) (by rw [HCW.out]; as_aux_lemma => kernel_rfl) (by rw [HCW.out]; as_aux_lemma => kernel_rfl) (by rw [HCW.out]; as_aux_lemma => kernel_rfl) ?_))
  obtain ⟨W3, e3, f1, f2, f3⟩ := two_rows w2 noneZ wideZ cn cw 44 46
  unfold noneZ wideZ at e3
  rw [← e3]
  clear e3
  rw [← HCN.out] at f1
  rw [HCW.out] at f2
  have R1 := Lib.hid (rgs_row f1)
  have R2 := Lib.hid (rgs_row f2)
  have B3 := (hb1.trans (hb2.mono hb1.size)).trans (f3.mono (Nat.le_trans hb1.size hb2.size))
  clear f1 f2 f3 hb1 hb2 HCN HCW
  refine (in_calls w2.heap.size 7 r noneL W3 R1.out (by decide)).mono ?_
  rintro e w4 ⟨rfl, hb4⟩
  have B4 := B3.trans (hb4.mono B3.size)
  have R4 := Lib.hid (R2.out.later hb4)
  clear R1 R2
  have HN := Lib.hid (show wof r = if isIn noneL r = true then 0 else if isIn wideL r = true then 2 else 1 from rfl)
  by_cases h1 : isIn noneL r = true
  · rw [h1]
    go_wp2
    go_ret
    exact ⟨by rw [HN.out, if_pos h1]; rfl, B4⟩
  · rw [Bool.eq_false_iff.2 h1]
    go_wp2_with fail
    refine (in_calls (w2.heap.size + 1) 10 r wideL w4 R4.out (by decide)).mono ?_
    rintro e w5 ⟨rfl, hb5⟩
    have B5 := B4.trans (hb5.mono B4.size)
    by_cases h2 : isIn wideL r = true
    · rw [h2]
      go_wp2
      go_ret
      exact ⟨by rw [HN.out, if_neg h1, if_pos h2]; rfl, B5⟩
    · rw [Bool.eq_false_iff.2 h2]
      go_wp2
      go_ret
      exact ⟨by rw [HN.out, if_neg h1, if_neg h2]; rfl, B5⟩
/-- width.Control. -/
theorem Control_calls (r : Int) (w : World) : Calls Try.prog 13 #[.int .i32 r] w fun e w' => e = .returned (.bool (ctl r)) ∧ Below w.heap.size w w' := by
  go_enter Try.func13, Try.ntmps13
  go_wp2
  all_goals go_ret
  all_goals
    refine ⟨?_, Below.refl _ _⟩
    refine congrArg (fun b => Ending.returned (.bool b)) ?_
    rw [Bool.eq_iff_iff]
    simp [ctl]
    omega
/-- ref.between. -/
theorem between_calls (r a b : Int) (w : World) : Calls Try.prog 32 #[.int .i64 r, .int .i64 a, .int .i64 b] w fun e w' => e = .returned (.bool (decide (a ≤ r) && decide (r ≤ b))) ∧ Below w.heap.size w w' := by
  go_enter Try.func32, Try.ntmps32
  go_wp2
  all_goals go_ret
  all_goals
    refine ⟨?_, Below.refl _ _⟩
    refine congrArg (fun b => Ending.returned (.bool b)) ?_
    rw [Bool.eq_iff_iff]
    simp
    omega
/-- ref.Control. -/
theorem rControl_calls (r : Int) (w : World) : Calls Try.prog 14 #[.int .i64 r] w fun e w' => e = .returned (.bool (ctl r)) ∧ Below w.heap.size w w' := by
  go_enter Try.func14, Try.ntmps14
  go_wp2
  all_goals go_ret
  all_goals
    refine ⟨?_, Below.refl _ _⟩
    refine congrArg (fun b => Ending.returned (.bool b)) ?_
    rw [Bool.eq_iff_iff]
    simp [ctl]
    omega
end Go.Proofs.Ytfegchonclhjjaa
