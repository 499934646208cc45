import Derived.Test.YticaeflnpgbngaaDoorSg3
namespace Go.Proofs.YticaeflnpgbngaaDoor
open Go.RowKit
/-- (*sign.Feed).Waits. -/
theorem Waits_calls (g off : Nat) (A : Option Addr) (n c : Nat) (w : World) (hc : w.cell? ⟨g, off, none⟩ = some (.slice A n c)) :
    Calls Tryd.prog 37 #[.pointer (some ⟨g, off, none⟩)] w fun e w' => e = .returned (.bool (decide (0 < n))) ∧ w = w' := by
  go_enter Tryd.func37, Tryd.ntmps37
  go_wp2
  go_ret
  exact ⟨by simp, rfl⟩
set_option maxHeartbeats 400000 in
/-- (*sign.Feed).Flush. -/
theorem Flush_calls (g off : Nat) (cs : Array Value) (T : TypeId) (A : Option Addr) (c : Nat) (l : Bs) (w : World) (hg : w.heap[g]? = some (.cells cs T (0, 0))) (hv : cs[off]? = some (.slice A l.length c)) (hr : RdB w A l) (hl : l.length ≤ 4294967296) :
    Calls Tryd.prog 29 #[.pointer (some ⟨g, off, none⟩)] w fun e w' => ∃ r, e = .returned r ∧ Row w' w.heap.size 21 1 r (runes l).length ((runes l).map i32) ∧ w'.heap[g]? = some (.cells (cs.setIfInBounds off (.slice none 0 0)) T (0, 0)) ∧ Fr (fun k => k = g) w w' := by
  have hc : w.cell? ⟨g, off, none⟩ = some (.slice A l.length c) := by rw [cell_of_row w g off cs T (0, 0) hg]; exact hv
  have hf : w.frozen? ⟨g, off, none⟩ = false := frozen_of_row w g off cs T hg
  have hgl := lt_of_heap hg
  go_enter Tryd.func29, Tryd.ntmps29
  go_wp2_with (first | (go_at_call 44; refine (Runes_calls A c l w hr hl).mono ?_; rintro e w1 ⟨v, rfl, hrow, hb⟩; have hc1 := (hb.cell (p := ⟨g, off, none⟩) hgl).trans hc; have hf1 := (hb.frozen (p := ⟨g, off, none⟩) hgl).trans hf))
  go_ret
  refine ⟨v, rfl, hrow.at_ fun k hk => Below.heap_setCell _ _ _ _ (by have := (hrow.lt k hk).1; dsimp only; omega), ?_, ?_⟩
  · exact heap_setCell_same _ _ _ _ _ _ (by rw [hb.block g hgl]; exact hg)
  · exact (Fr.of_fresh hb).trans (Fr.setCell _ _ _) (fun i _ h => h)
end Go.Proofs.YticaeflnpgbngaaDoor
