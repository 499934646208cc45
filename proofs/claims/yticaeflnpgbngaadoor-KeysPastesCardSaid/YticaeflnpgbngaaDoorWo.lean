import Derived.Test.YticaeflnpgbngaaDoorMem
import Derived.Test.YticaeflnpgbngaaDoorProg
import Derived.Deep.WholeRow
namespace Go.Proofs.YticaeflnpgbngaaDoor
open Go.RowKit
/-! The width of a sign. -/
def noneL : List (Int × Int) := [(0x300, 0x36f), (0x1ab0, 0x1aff), (0x1dc0, 0x1dff), (0x200b, 0x200d), (0x20d0, 0x20ff), (0xfe00, 0xfe0f), (0xfe20, 0xfe2f)]
def wideL : List (Int × Int) := [(0x1100, 0x115f), (0x2e80, 0x303e), (0x3041, 0xa4cf), (0xac00, 0xd7a3), (0xf900, 0xfaff), (0xfe30, 0xfe6f), (0xff01, 0xff60), (0xffe0, 0xffe6), (0x1f300, 0x1faff), (0x20000, 0x3fffd)]
def isIn (l : List (Int × Int)) (r : Int) : Bool := l.any fun p => decide (p.1 ≤ r) && decide (r ≤ p.2)
def wof (r : Int) : Int := if isIn noneL r then 0 else if isIn wideL r then 2 else 1
def ctl (r : Int) : Bool := decide (r ≤ 31) || (decide (127 ≤ r) && decide (r ≤ 159))
def flat2 (l : List (Int × Int)) : List Value := l.flatMap fun p => [.int .i32 p.1, .int .i32 p.2]
theorem wof_cases (r : Int) : wof r = 0 ∨ wof r = 1 ∨ wof r = 2 := by
  unfold wof; split
  · exact .inl rfl
  · split
    · exact .inr (.inr rfl)
    · exact .inr (.inl rfl)
/-- A slice of ranges that can be read. -/
def Rgs (w : World) (b : Nat) (l : List (Int × Int)) : Prop := ∀ k p, l[k]? = some p → w.cell? ⟨b, k * 2, none⟩ = some (.int .i32 p.1) ∧ w.cell? ⟨b, k * 2 + 1, none⟩ = some (.int .i32 p.2)
theorem Rgs.later {w w' : World} {g : Nat} {l : List (Int × Int)} (h : Rgs w g l) (hb : Below w.heap.size w w') : Rgs w' g l := fun k p hk => by
  obtain ⟨h1, h2⟩ := h k p hk
  have hg : g < w.heap.size := World.block_lt_of_cell? w ⟨g, k * 2, none⟩ h1
  exact ⟨(hb.cell (p := ⟨g, k * 2, none⟩) hg).trans h1, (hb.cell (p := ⟨g, k * 2 + 1, none⟩) hg).trans h2⟩
end Go.Proofs.YticaeflnpgbngaaDoor
namespace Go.Proofs.YticaeflnpgbngaaDoor
open Go.RowKit
theorem results_cell1 {fn : Func} {p : Tmp} {ty : TypeId} (h : fn.results = #[.cell p ty]) {tmps : Array Value} {P : Program} {w : World} {a : Addr} {v : Value} (ha : tmps.getD p undef = .pointer (some a)) (hv : (loadVar ty a).run P w = .ok v w) :
    (results fn tmps).run P w = .ok v w := by
  simp only [results, h]
  have ha' : tmps[p]?.getD undef = .pointer (some a) := by simpa using ha
  simp [ha', asAddr, hv]
def wideZ : Array Value := #[.int .i32 0, .int .i32 0, .int .i32 0, .int .i32 0, .int .i32 0, .int .i32 0, .int .i32 0, .int .i32 0, .int .i32 0, .int .i32 0, .int .i32 0, .int .i32 0, .int .i32 0, .int .i32 0, .int .i32 0, .int .i32 0, .int .i32 0, .int .i32 0, .int .i32 0, .int .i32 0]
def wideC : Array Value := #[.int .i32 4352, .int .i32 4447, .int .i32 11904, .int .i32 12350, .int .i32 12353, .int .i32 42191, .int .i32 44032, .int .i32 55203, .int .i32 63744, .int .i32 64255, .int .i32 65072, .int .i32 65135, .int .i32 65281, .int .i32 65376, .int .i32 65504, .int .i32 65510, .int .i32 127744, .int .i32 129791, .int .i32 131072, .int .i32 262141]
theorem wideC_eq : wideC = (flat2 wideL).toArray := by kernel_rfl
end Go.Proofs.YticaeflnpgbngaaDoor
namespace Go.Proofs.YticaeflnpgbngaaDoor
open Go.RowKit
theorem flat2_get (l : List (Int × Int)) : ∀ k p, l[k]? = some p → (flat2 l)[k * 2]? = some (.int .i32 p.1) ∧ (flat2 l)[k * 2 + 1]? = some (.int .i32 p.2) := by
  induction l with
  | nil => intro k p h; simp at h
  | cons q t ih =>
    intro k p h
    have e : flat2 (q :: t) = .int .i32 q.1 :: .int .i32 q.2 :: flat2 t := rfl
    rw [e]
    cases k with
    | zero => simp at h; subst h; exact ⟨rfl, rfl⟩
    | succ k =>
      have := ih k p (by simpa using h)
      rw [show (k + 1) * 2 = k * 2 + 1 + 1 by omega]
      simpa using this
theorem rgs_row {w : World} {b : Nat} {T : TypeId} {l : List (Int × Int)} (h : w.heap[b]? = some (.cells (flat2 l).toArray T (0, 0))) : Rgs w b l := fun k p hk => by
  have := flat2_get l k p hk
  rw [cell_of_row w b _ _ T (0, 0) h, cell_of_row w b _ _ T (0, 0) h]
  simpa using this
def noneZ : Array Value := #[.int .i32 0, .int .i32 0, .int .i32 0, .int .i32 0, .int .i32 0, .int .i32 0, .int .i32 0, .int .i32 0, .int .i32 0, .int .i32 0, .int .i32 0, .int .i32 0, .int .i32 0, .int .i32 0]
theorem setRow_below {w0 w : World} {B : Nat} (h : Below B w0 w) (g : Nat) (cs : Array Value) (hg : B ≤ g) : Below B w0 (w.setRow g cs) :=
  ⟨h.os, h.tape, h.output, by rw [setRow_size]; exact h.size, fun k hk => by rw [setRow_other w g k cs (by omega)]; exact h.block k hk⟩
theorem heap_two (w : World) (o o2 : Obj) (cn : Array Value) : (((w.alloc o).alloc o2).setRow w.heap.size cn).heap[w.heap.size + 1]? = some o2 := by
  rw [setRow_other _ _ _ _ (by omega)]
  have := heap_alloc_last (w.alloc o) o2
  rwa [World.size_alloc] at this
theorem two_rows (w : World) (z z2 cn cw : Array Value) (T T2 : TypeId) : ∃ W, W = ((((w.alloc (.cells z T)).alloc (.cells z2 T2)).setRow w.heap.size cn).setRow (w.heap.size + 1) cw) ∧
    W.heap[w.heap.size]? = some (.cells cn T (0, 0)) ∧ W.heap[w.heap.size + 1]? = some (.cells cw T2 (0, 0)) ∧ Below w.heap.size w W := by
  refine ⟨_, rfl, ?_, ?_, ?_⟩
  · rw [setRow_other _ _ _ _ (by omega)]
    exact setRow_heap _ _ z _ _ _ ((Below.heap_alloc _ _ _ (by simp)).trans (heap_alloc_last w _))
  · exact setRow_heap _ _ z2 _ _ _ (heap_two w _ _ _)
  · exact setRow_below (setRow_below (((Below.refl _ w).alloc (Nat.le_refl _) _).alloc (by simp) _) _ _ (Nat.le_refl _)) _ _ (by omega)
/-- width.Control. -/
theorem Control_calls (r : Int) (w : World) : Calls Tryd.prog 43 #[.int .i32 r] w fun e w' => e = .returned (.bool (ctl r)) ∧ Below w.heap.size w w' := by
  go_enter Tryd.func43, Tryd.ntmps43
  go_wp2
  all_goals go_ret
  all_goals
    refine ⟨?_, Below.refl _ _⟩
    refine congrArg (fun b => Ending.returned (.bool b)) ?_
    rw [Bool.eq_iff_iff]
    simp [ctl]
    omega
/-- ref.Control. -/
theorem rControl_calls (r : Int) (w : World) : Calls Tryd.prog 40 #[.int .i64 r] w fun e w' => e = .returned (.bool (ctl r)) ∧ Below w.heap.size w w' := by
  go_enter Tryd.func40, Tryd.ntmps40
  go_wp2
  all_goals go_ret
  all_goals
    refine ⟨?_, Below.refl _ _⟩
    refine congrArg (fun b => Ending.returned (.bool b)) ?_
    rw [Bool.eq_iff_iff]
    simp [ctl]
    omega
end Go.Proofs.YticaeflnpgbngaaDoor
namespace Go.Proofs.YticaeflnpgbngaaDoor
open Go.RowKit
def bt (r a b : Int) : Bool := decide (a ≤ r) && decide (r ≤ b)
theorem wof_bt (r : Int) : wof r = if (bt r 0x300 0x36f || (bt r 0x1ab0 0x1aff || (bt r 0x1dc0 0x1dff || (bt r 0x200b 0x200d || (bt r 0x20d0 0x20ff || (bt r 0xfe00 0xfe0f || (bt r 0xfe20 0xfe2f || false))))))) = true then 0 else
    if (bt r 0x1100 0x115f || (bt r 0x2e80 0x303e || (bt r 0x3041 0xa4cf || (bt r 0xac00 0xd7a3 || (bt r 0xf900 0xfaff || (bt r 0xfe30 0xfe6f || (bt r 0xff01 0xff60 || (bt r 0xffe0 0xffe6 || (bt r 0x1f300 0x1faff || (bt r 0x20000 0x3fffd || false)))))))))) = true then 2 else 1 := rfl
end Go.Proofs.YticaeflnpgbngaaDoor
