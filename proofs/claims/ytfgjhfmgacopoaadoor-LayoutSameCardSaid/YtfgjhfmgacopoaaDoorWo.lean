import Derived.Test.YtfgjhfmgacopoaaDoorMem
import Derived.Test.YtfgjhfmgacopoaaDoorProg
import Derived.Deep.WholeRow
namespace Go.Proofs.YtfgjhfmgacopoaaDoor
open Go.RowKit
/-! The width of a sign. -/
def noneL : List (Int × Int) := [(0x300, 0x36f), (0x1ab0, 0x1aff), (0x1dc0, 0x1dff), (0x200b, 0x200d), (0x20d0, 0x20ff), (0xfe00, 0xfe0f), (0xfe20, 0xfe2f)]
def wideL : List (Int × Int) := [(0x1100, 0x115f), (0x2e80, 0x303e), (0x3041, 0xa4cf), (0xac00, 0xd7a3), (0xf900, 0xfaff), (0xfe30, 0xfe6f), (0xff01, 0xff60), (0xffe0, 0xffe6), (0x1f300, 0x1faff), (0x20000, 0x3fffd)]
def isIn (l : List (Int × Int)) (r : Int) : Bool := l.any fun p => decide (p.1 ≤ r) && decide (r ≤ p.2)
def wof (r : Int) : Int := if isIn noneL r then 0 else if isIn wideL r then 2 else 1
def ctl (r : Int) : Bool := decide (r ≤ 31) || (decide (127 ≤ r) && decide (r ≤ 159))
def flat2 (l : List (Int × Int)) : List Value := l.flatMap fun p => [.int .i32 p.1, .int .i32 p.2]
theorem wof_cases (r : Int) : wof r = 0 ∨ wof r = 1 ∨ wof r = 2 := by
  unfold wof; split
  · exact .inl rfl
  · split
    · exact .inr (.inr rfl)
    · exact .inr (.inl rfl)
/-- A slice of ranges that can be read. -/
def Rgs (w : World) (b : Nat) (l : List (Int × Int)) : Prop := ∀ k p, l[k]? = some p → w.cell? ⟨b, k * 2, none⟩ = some (.int .i32 p.1) ∧ w.cell? ⟨b, k * 2 + 1, none⟩ = some (.int .i32 p.2)
theorem in1_calls (b : Nat) (r lo hi : Int) (w : World) (hb : w.cell? ⟨b, 0, none⟩ = some (.int .i32 r)) (hlt : b < w.heap.size) : Calls Tryd.prog 82 #[.agg #[.int .i32 lo, .int .i32 hi], .pointer (some ⟨b, 0, none⟩)] w fun e w' => e = .returned (.bool (decide (lo ≤ r) && decide (r ≤ hi))) ∧ Below w.heap.size w w' := by
  go_enter Tryd.func82, Tryd.ntmps82
  go_wp2
  all_goals go_ret
  · have h : lo ≤ r := by assumption
    exact ⟨by simp [h], (Below.refl _ w).alloc (Nat.le_refl _) _⟩
  · have h : r < lo := by assumption
    exact ⟨by simp [show ¬ lo ≤ r by omega], (Below.refl _ w).alloc (Nat.le_refl _) _⟩
set_option maxHeartbeats 800000 in
set_option maxRecDepth 100000 in
theorem index_calls (b g c : Nat) (r : Int) (l : List (Int × Int)) (w : World) (hb : w.cell? ⟨b, 0, none⟩ = some (.int .i32 r)) (hr : Rgs w g l) (hl : l.length ≤ 100) :
    Calls Tryd.prog 88 #[.slice (some ⟨g, 0, none⟩) l.length c, .func (.func 82) #[] #[.pointer (some ⟨b, 0, none⟩)]] w fun e w' => ∃ j : Int, e = .returned (.int .i64 j) ∧ decide (0 ≤ j) = isIn l r ∧ Below w.heap.size w w' := by
  have hlt : b < w.heap.size := World.block_lt_of_cell? w ⟨b, 0, none⟩ hb
  have HR := Lib.hid hr
  clear hr
  go_enter Tryd.func88, Tryd.ntmps88
  go_wp2
  go_loopw [8] (fun u8 wr => ∃ k : Nat, u8 = .int .i64 k ∧ k ≤ l.length ∧ isIn (l.take k) r = false ∧ Below w.heap.size w wr) (fun u8 _ => l.length - (intOf u8).toNat)
  case atStart => exact ⟨0, rfl, Nat.zero_le _, rfl, Below.refl _ _⟩
  case round =>
    obtain ⟨k, rfl, hk, hin, hB⟩ := hrel
    have HIN := Lib.hid hin
    clear hin
    by_cases hgo : k < l.length
    · obtain ⟨p, hp⟩ : ∃ p, l[k]? = some p := ⟨_, List.getElem?_eq_getElem hgo⟩
      have hgk := HR.out k p hp
      have hg : g < w.heap.size := World.block_lt_of_cell? w ⟨g, k * 2, none⟩ hgk.1
      have hc1 := (hB.cell (p := ⟨g, k * 2, none⟩) hg).trans hgk.1
      have hc2 := (hB.cell (p := ⟨g, k * 2 + 1, none⟩) hg).trans hgk.2
      have hb1 := (hB.cell (p := ⟨b, 0, none⟩) hlt).trans hb
      have hlt1 : b < wr.heap.size := Nat.lt_of_lt_of_le hlt hB.size
      obtain ⟨lo, hi⟩ := p
      clear hgk
      dsimp only at hc1 hc2
      have i1 : (k : Int) < (l.length : Int) := by omega
      go_wp2_with fail
      refine (in1_calls b r lo hi wr hb1 hlt1).mono ?_
      rintro e w1 ⟨rfl, hb2⟩
      have HP := Lib.hid hp
      clear hp
      by_cases hh : (decide (lo ≤ r) && decide (r ≤ hi)) = true
      · rw [hh]
        go_wp2
        go_ret
        refine ⟨k, rfl, ?_, hB.trans (hb2.mono hB.size)⟩
        have : isIn l r = true := List.any_eq_true.2 ⟨_, List.mem_of_getElem? HP.out, hh⟩
        rw [this]; simp
      · rw [Bool.eq_false_iff.2 hh]
        go_wp2
        go_roundw
        case rel =>
          refine ⟨k + 1, by go_num, by omega, ?_, hB.trans (hb2.mono hB.size)⟩
          have e : l.take (k + 1) = l.take k ++ [(lo, hi)] := by rw [List.take_add_one, HP.out]; rfl
          have h1 := HIN.out
          unfold isIn at h1 ⊢
          rw [e, List.any_append, h1]
          simpa using hh
        case measure => simp [intOf]; omega
    · go_wp2
      go_ret
      refine ⟨-1, rfl, ?_, hB⟩
      have h1 := HIN.out
      rw [List.take_of_length_le (by omega)] at h1
      rw [h1]; rfl
theorem contains_calls (b g c : Nat) (r : Int) (l : List (Int × Int)) (w : World) (hb : w.cell? ⟨b, 0, none⟩ = some (.int .i32 r)) (hr : Rgs w g l) (hl : l.length ≤ 100) :
    Calls Tryd.prog 81 #[.slice (some ⟨g, 0, none⟩) l.length c, .func (.func 82) #[] #[.pointer (some ⟨b, 0, none⟩)]] w fun e w' => e = .returned (.bool (isIn l r)) ∧ Below w.heap.size w w' := by
  go_enter Tryd.func81, Tryd.ntmps81
  go_wp2_with fail
  refine (index_calls b g c r l w hb hr hl).mono ?_
  rintro e w1 ⟨j, rfl, hj, hb1⟩
  have HJ := Lib.hid hj
  clear hj
  by_cases h : 0 ≤ j
  all_goals
    go_wp2
    go_ret
    exact ⟨by rw [← HJ.out]; simp [h], hb1⟩
theorem Rgs.later {w w' : World} {g : Nat} {l : List (Int × Int)} (h : Rgs w g l) (hb : Below w.heap.size w w') : Rgs w' g l := fun k p hk => by
  obtain ⟨h1, h2⟩ := h k p hk
  have hg : g < w.heap.size := World.block_lt_of_cell? w ⟨g, k * 2, none⟩ h1
  exact ⟨(hb.cell (p := ⟨g, k * 2, none⟩) hg).trans h1, (hb.cell (p := ⟨g, k * 2 + 1, none⟩) hg).trans h2⟩
theorem in_calls (g c : Nat) (r : Int) (l : List (Int × Int)) (w : World) (hr : Rgs w g l) (hl : l.length ≤ 100) :
    Calls Tryd.prog 68 #[.slice (some ⟨g, 0, none⟩) l.length c, .int .i32 r] w fun e w' => e = .returned (.bool (isIn l r)) ∧ Below w.heap.size w w' := by
  have hr1 := hr.later (w' := w.alloc (.cells #[.int .i32 r] 21)) ((Below.refl _ w).alloc (Nat.le_refl _) _)
  have hb1 : Below w.heap.size w (w.alloc (.cells #[.int .i32 r] 21)) := (Below.refl _ w).alloc (Nat.le_refl _) _
  clear hr
  go_enter Tryd.func68, Tryd.ntmps68
  go_wp2_with fail
  refine (contains_calls w.heap.size g c r l (w.alloc (.cells #[.int .i32 r] 21)) (by simp) hr1 hl).mono ?_
  rintro e w1 ⟨rfl, hb2⟩
  go_wp2
  go_ret
  exact ⟨rfl, hb1.trans (hb2.mono (by simp))⟩
end Go.Proofs.YtfgjhfmgacopoaaDoor
namespace Go.Proofs.YtfgjhfmgacopoaaDoor
open Go.RowKit
set_option maxRecDepth 100000 in
theorem none_calls (w : World) : Calls Tryd.prog 66 #[] w fun e w' => e = .returned (.agg (flat2 noneL).toArray) ∧ Below w.heap.size w w' := by
  go_enter Tryd.func66, Tryd.ntmps66
  go_wp2
  go_returns
  exact ⟨rfl, (Below.refl _ w).alloc (Nat.le_refl _) _⟩
theorem results_cell1 {fn : Func} {p : Tmp} {ty : TypeId} (h : fn.results = #[.cell p ty]) {tmps : Array Value} {P : Program} {w : World} {a : Addr} {v : Value} (ha : tmps.getD p undef = .pointer (some a)) (hv : (loadVar ty a).run P w = .ok v w) :
    (results fn tmps).run P w = .ok v w := by
  simp only [results, h]
  have ha' : tmps[p]?.getD undef = .pointer (some a) := by simpa using ha
  simp [ha', asAddr, hv]
def wideZ : Array Value := #[.int .i32 0, .int .i32 0, .int .i32 0, .int .i32 0, .int .i32 0, .int .i32 0, .int .i32 0, .int .i32 0, .int .i32 0, .int .i32 0, .int .i32 0, .int .i32 0, .int .i32 0, .int .i32 0, .int .i32 0, .int .i32 0, .int .i32 0, .int .i32 0, .int .i32 0, .int .i32 0]
def wideC : Array Value := #[.int .i32 4352, .int .i32 4447, .int .i32 11904, .int .i32 12350, .int .i32 12353, .int .i32 42191, .int .i32 44032, .int .i32 55203, .int .i32 63744, .int .i32 64255, .int .i32 65072, .int .i32 65135, .int .i32 65281, .int .i32 65376, .int .i32 65504, .int .i32 65510, .int .i32 127744, .int .i32 129791, .int .i32 131072, .int .i32 262141]
set_option maxRecDepth 100000 in
theorem wide_calls (w : World) : Calls Tryd.prog 67 #[] w fun e w' => e = .returned (.agg wideC) ∧ Below w.heap.size w w' := by
  go_enter Tryd.func67, Tryd.ntmps67
  go_wp2_with (first
    | (refine wpList_build (by rfl) 104 _ (by rfl) (by as_aux_lemma => kernel_rfl) ?_)
    | (refine wpList_store_row (by rfl) 104 _ _ (by rfl) w.heap.size wideC (by rfl) (by as_aux_lemma => kernel_rfl) 104 wideZ (heap_alloc_last w _) (by as_aux_lemma => kernel_rfl) (by as_aux_lemma => kernel_rfl) (by as_aux_lemma => kernel_rfl) ?_))
  have e : (w.alloc (.cells wideZ 104)).setRow w.heap.size wideC = w.alloc (.cells wideC 104) := World.setRow_alloc_new w _ _ _
  unfold wideZ at e
  rw [e]
  refine bodyPost_ret (v := .agg wideC) (results_cell1 rfl (a := ⟨w.heap.size, 0, none⟩) rfl (run_loadVar_new w _ wideC _ _ Tryd.underlying104 (by as_aux_lemma => kernel_rfl))) rfl ⟨rfl, (Below.refl _ w).alloc (Nat.le_refl _) _⟩
theorem wideC_eq : wideC = (flat2 wideL).toArray := by kernel_rfl
end Go.Proofs.YtfgjhfmgacopoaaDoor
namespace Go.Proofs.YtfgjhfmgacopoaaDoor
open Go.RowKit
theorem flat2_get (l : List (Int × Int)) : ∀ k p, l[k]? = some p → (flat2 l)[k * 2]? = some (.int .i32 p.1) ∧ (flat2 l)[k * 2 + 1]? = some (.int .i32 p.2) := by
  induction l with
  | nil => intro k p h; simp at h
  | cons q t ih =>
    intro k p h
    have e : flat2 (q :: t) = .int .i32 q.1 :: .int .i32 q.2 :: flat2 t := rfl
    rw [e]
    cases k with
    | zero => simp at h; subst h; exact ⟨rfl, rfl⟩
    | succ k =>
      have := ih k p (by simpa using h)
      rw [show (k + 1) * 2 = k * 2 + 1 + 1 by omega]
      simpa using this
theorem rgs_row {w : World} {b : Nat} {T : TypeId} {l : List (Int × Int)} (h : w.heap[b]? = some (.cells (flat2 l).toArray T (0, 0))) : Rgs w b l := fun k p hk => by
  have := flat2_get l k p hk
  rw [cell_of_row w b _ _ T (0, 0) h, cell_of_row w b _ _ T (0, 0) h]
  simpa using this
def noneZ : Array Value := #[.int .i32 0, .int .i32 0, .int .i32 0, .int .i32 0, .int .i32 0, .int .i32 0, .int .i32 0, .int .i32 0, .int .i32 0, .int .i32 0, .int .i32 0, .int .i32 0, .int .i32 0, .int .i32 0]
theorem setRow_below {w0 w : World} {B : Nat} (h : Below B w0 w) (g : Nat) (cs : Array Value) (hg : B ≤ g) : Below B w0 (w.setRow g cs) :=
  ⟨h.os, h.tape, h.output, by rw [setRow_size]; exact h.size, fun k hk => by rw [setRow_other w g k cs (by omega)]; exact h.block k hk⟩
theorem heap_two (w : World) (o o2 : Obj) (cn : Array Value) : (((w.alloc o).alloc o2).setRow w.heap.size cn).heap[w.heap.size + 1]? = some o2 := by
  rw [setRow_other _ _ _ _ (by omega)]
  have := heap_alloc_last (w.alloc o) o2
  rwa [World.size_alloc] at this
theorem two_rows (w : World) (z z2 cn cw : Array Value) (T T2 : TypeId) : ∃ W, W = ((((w.alloc (.cells z T)).alloc (.cells z2 T2)).setRow w.heap.size cn).setRow (w.heap.size + 1) cw) ∧
    W.heap[w.heap.size]? = some (.cells cn T (0, 0)) ∧ W.heap[w.heap.size + 1]? = some (.cells cw T2 (0, 0)) ∧ Below w.heap.size w W := by
  refine ⟨_, rfl, ?_, ?_, ?_⟩
  · rw [setRow_other _ _ _ _ (by omega)]
    exact setRow_heap _ _ z _ _ _ ((Below.heap_alloc _ _ _ (by simp)).trans (heap_alloc_last w _))
  · exact setRow_heap _ _ z2 _ _ _ (heap_two w _ _ _)
  · exact setRow_below (setRow_below (((Below.refl _ w).alloc (Nat.le_refl _) _).alloc (by simp) _) _ _ (Nat.le_refl _)) _ _ (by omega)
set_option maxRecDepth 100000 in
set_option maxHeartbeats 1000000 in
theorem Of_calls (r : Int) (w : World) :
    Calls Tryd.prog 56 #[.int .i32 r] w fun e w' => e = .returned (.int .i64 (wof r)) ∧ Below w.heap.size w w' := by
  go_enter Tryd.func56, Tryd.ntmps56
  go_wp2_with (first
    | (go_at_call 66; refine (none_calls w).mono ?_; rintro e w1 ⟨rfl, hb1⟩; generalize hcn : (flat2 noneL).toArray = cn; have HCN := Lib.hid hcn; clear hcn)
    | (go_at_call 67; refine (wide_calls w1).mono ?_; rintro e w2 ⟨rfl, hb2⟩; have hcw := wideC_eq; generalize wideC = cw at hcw; have HCW := Lib.hid hcw; clear hcw)
    | (refine wpList_store_row (by rfl) 102 _ _ (by rfl) w2.heap.size cn (by rfl) (by rfl) 102 noneZ ((Below.heap_alloc _ _ _ (by simp)).trans (heap_alloc_last w2 _)) (by rw [← HCN.out]; as_aux_lemma => kernel_rfl) (by rw [← HCN.out]; as_aux_lemma => kernel_rfl) (by rw [← HCN.out]; as_aux_lemma => kernel_rfl) ?_)
    | (refine wpList_store_row (by rfl) 104 _ _ (by rfl) (w2.heap.size + 1) cw (by rfl) (by rfl) 104 wideZ (heap_two w2 _ _ _) (by rw [HCW.out]; as_aux_lemma => kernel_rfl) (by rw [HCW.out]; as_aux_lemma => kernel_rfl) (by rw [HCW.out]; as_aux_lemma => kernel_rfl) ?_))
  obtain ⟨W3, e3, f1, f2, f3⟩ := two_rows w2 noneZ wideZ cn cw 102 104
  unfold noneZ wideZ at e3
  rw [← e3]
  clear e3
  rw [← HCN.out] at f1
  rw [HCW.out] at f2
  have R1 := Lib.hid (rgs_row f1)
  have R2 := Lib.hid (rgs_row f2)
  have B3 := (hb1.trans (hb2.mono hb1.size)).trans (f3.mono (Nat.le_trans hb1.size hb2.size))
  clear f1 f2 f3 hb1 hb2 HCN HCW
  refine (in_calls w2.heap.size 7 r noneL W3 R1.out (by decide)).mono ?_
  rintro e w4 ⟨rfl, hb4⟩
  have B4 := B3.trans (hb4.mono B3.size)
  have R4 := Lib.hid (R2.out.later hb4)
  clear R1 R2
  have HN := Lib.hid (show wof r = if isIn noneL r = true then 0 else if isIn wideL r = true then 2 else 1 from rfl)
  by_cases h1 : isIn noneL r = true
  · rw [h1]
    go_wp2
    go_ret
    exact ⟨by rw [HN.out, if_pos h1]; rfl, B4⟩
  · rw [Bool.eq_false_iff.2 h1]
    go_wp2_with fail
    refine (in_calls (w2.heap.size + 1) 10 r wideL w4 R4.out (by decide)).mono ?_
    rintro e w5 ⟨rfl, hb5⟩
    have B5 := B4.trans (hb5.mono B4.size)
    by_cases h2 : isIn wideL r = true
    · rw [h2]
      go_wp2
      go_ret
      exact ⟨by rw [HN.out, if_neg h1, if_pos h2]; rfl, B5⟩
    · rw [Bool.eq_false_iff.2 h2]
      go_wp2
      go_ret
      exact ⟨by rw [HN.out, if_neg h1, if_neg h2]; rfl, B5⟩
/-- width.Control. -/
theorem Control_calls (r : Int) (w : World) : Calls Tryd.prog 64 #[.int .i32 r] w fun e w' => e = .returned (.bool (ctl r)) ∧ Below w.heap.size w w' := by
  go_enter Tryd.func64, Tryd.ntmps64
  go_wp2
  all_goals go_ret
  all_goals
    refine ⟨?_, Below.refl _ _⟩
    refine congrArg (fun b => Ending.returned (.bool b)) ?_
    rw [Bool.eq_iff_iff]
    simp [ctl]
    omega
/-- ref.between. -/
theorem between_calls (r a b : Int) (w : World) : Calls Tryd.prog 50 #[.int .i64 r, .int .i64 a, .int .i64 b] w fun e w' => e = .returned (.bool (decide (a ≤ r) && decide (r ≤ b))) ∧ Below w.heap.size w w' := by
  go_enter Tryd.func50, Tryd.ntmps50
  go_wp2
  all_goals go_ret
  all_goals
    refine ⟨?_, Below.refl _ _⟩
    refine congrArg (fun b => Ending.returned (.bool b)) ?_
    rw [Bool.eq_iff_iff]
    simp
    omega
/-- ref.Control. -/
theorem rControl_calls (r : Int) (w : World) : Calls Tryd.prog 27 #[.int .i64 r] w fun e w' => e = .returned (.bool (ctl r)) ∧ Below w.heap.size w w' := by
  go_enter Tryd.func27, Tryd.ntmps27
  go_wp2
  all_goals go_ret
  all_goals
    refine ⟨?_, Below.refl _ _⟩
    refine congrArg (fun b => Ending.returned (.bool b)) ?_
    rw [Bool.eq_iff_iff]
    simp [ctl]
    omega
end Go.Proofs.YtfgjhfmgacopoaaDoor
namespace Go.Proofs.YtfgjhfmgacopoaaDoor
open Go.RowKit
def bt (r a b : Int) : Bool := decide (a ≤ r) && decide (r ≤ b)
theorem bt_calls (r a b : Int) (w : World) : Calls Tryd.prog 50 #[.int .i64 r, .int .i64 a, .int .i64 b] w fun e w' => e = .returned (.bool (bt r a b)) ∧ Below w.heap.size w w' := between_calls r a b w
theorem wof_bt (r : Int) : wof r = if (bt r 0x300 0x36f || (bt r 0x1ab0 0x1aff || (bt r 0x1dc0 0x1dff || (bt r 0x200b 0x200d || (bt r 0x20d0 0x20ff || (bt r 0xfe00 0xfe0f || (bt r 0xfe20 0xfe2f || false))))))) = true then 0 else
    if (bt r 0x1100 0x115f || (bt r 0x2e80 0x303e || (bt r 0x3041 0xa4cf || (bt r 0xac00 0xd7a3 || (bt r 0xf900 0xfaff || (bt r 0xfe30 0xfe6f || (bt r 0xff01 0xff60 || (bt r 0xffe0 0xffe6 || (bt r 0x1f300 0x1faff || (bt r 0x20000 0x3fffd || false)))))))))) = true then 2 else 1 := rfl
set_option maxRecDepth 100000 in
set_option maxHeartbeats 1000000 in
theorem rOf_calls (r : Int) (w : World) :
    Calls Tryd.prog 30 #[.int .i64 r] w fun e w' => e = .returned (.int .i64 (wof r)) ∧ Below w.heap.size w w' := by
  have B := Below.refl w.heap.size w
  have HW := Lib.hid (wof_bt r)
  go_enter Tryd.func30, Tryd.ntmps30
  go_wp2_with (first
    | (go_at_call 50; refine (bt_calls _ _ _ _).mono ?_; rintro e w1 ⟨rfl, hb⟩; replace B := B.trans (hb.mono B.size); clear hb))
  all_goals go_ret
  all_goals
    refine ⟨?_, B⟩
    refine congrArg (fun z => Ending.returned (.int .i64 z)) ?_
    rw [HW.out]
    clear HW
    simp only [Bool.or_eq_true] at *
    simp_all
end Go.Proofs.YtfgjhfmgacopoaaDoor
