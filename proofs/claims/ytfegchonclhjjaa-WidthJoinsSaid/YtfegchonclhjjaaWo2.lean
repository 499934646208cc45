import Derived.Test.YtfegchonclhjjaaWo
import Derived.Deep.WholeRow
namespace Go.Proofs.Ytfegchonclhjjaa
open Go.RowKit
set_option maxRecDepth 100000 in
theorem none_calls (w : World) : Calls Try.prog 29 #[] w fun e w' => e = .returned (.agg (flat2 noneL).toArray) ∧ Below w.heap.size w w' := by
  go_enter Try.func29, Try.ntmps29
  go_wp2
  go_returns
  exact ⟨rfl, (Below.refl _ w).alloc (Nat.le_refl _) _⟩
theorem results_cell1 {fn : Func} {p : Tmp} {ty : TypeId} (h : fn.results = #[.cell p ty]) {tmps : Array Value} {P : Program} {w : World} {a : Addr} {v : Value} (ha : tmps.getD p undef = .pointer (some a)) (hv : (loadVar ty a).run P w = .ok v w) :
    (results fn tmps).run P w = .ok v w := by
  simp only [results, h]
  have ha' : tmps[p]?.getD undef = .pointer (some a) := by simpa using ha
  simp [ha', asAddr, hv]
def wideZ : Array Value := #[.int .i32 0, .int .i32 0, .int .i32 0, .int .i32 0, .int .i32 0, .int .i32 0, .int .i32 0, .int .i32 0, .int .i32 0, .int .i32 0, .int .i32 0, .int .i32 0, .int .i32 0, .int .i32 0, .int .i32 0, .int .i32 0, .int .i32 0, .int .i32 0, .int .i32 0, .int .i32 0]
def wideC : Array Value := #[.int .i32 4352, .int .i32 4447, .int .i32 11904, .int .i32 12350, .int .i32 12353, .int .i32 42191, .int .i32 44032, .int .i32 55203, .int .i32 63744, .int .i32 64255, .int .i32 65072, .int .i32 65135, .int .i32 65281, .int .i32 65376, .int .i32 65504, .int .i32 65510, .int .i32 127744, .int .i32 129791, .int .i32 131072, .int .i32 262141]
set_option maxRecDepth 100000 in
theorem wide_calls (w : World) : Calls Try.prog 30 #[] w fun e w' => e = .returned (.agg wideC) ∧ Below w.heap.size w w' := by
  go_enter Try.func30, Try.ntmps30
  go_wp2_with (first
    | (refine wpList_build (by rfl) 46 _ (by rfl) (by as_aux_lemma => kernel_rfl) ?_)
    | (refine wpList_store_row (by rfl) 46 _ _ (by rfl) w.heap.size wideC (by rfl) (by as_aux_lemma => kernel_rfl) 46 wideZ (heap_alloc_last w _) (by as_aux_lemma => kernel_rfl) (by as_aux_lemma => kernel_rfl) (by as_aux_lemma => kernel_rfl) ?_))
  have e : (w.alloc (.cells wideZ 46)).setRow w.heap.size wideC = w.alloc (.cells wideC 46) := World.setRow_alloc_new w _ _ _
  unfold wideZ at e
  rw [e]
  refine bodyPost_ret (v := .agg wideC) (results_cell1 rfl (a := ⟨w.heap.size, 0, none⟩) rfl (run_loadVar_new w _ wideC _ _ Try.underlying46 (by as_aux_lemma => kernel_rfl))) rfl ⟨rfl, (Below.refl _ w).alloc (Nat.le_refl _) _⟩
theorem wideC_eq : wideC = (flat2 wideL).toArray := by kernel_rfl
end Go.Proofs.Ytfegchonclhjjaa
