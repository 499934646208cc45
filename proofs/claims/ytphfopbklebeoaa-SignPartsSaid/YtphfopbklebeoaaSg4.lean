import Derived.Test.YtphfopbklebeoaaSg3
namespace Go.Proofs.Ytphfopbklebeoaa
open Go.RowKit
theorem Try.info_u8 : (Try.prog.info? 5).map (fun i => (i.zero, i.size, i.bytes)) = some (some (.int .u8 0), 1, 1) := by kernel_rfl
theorem len_of_size {s : ByteArray} {n : Nat} (h : s.size ≤ n) : s.data.toList.length ≤ n := by rw [Array.length_toList]; exact h
theorem enc_len' (r : Int) : (bl (Utf8.encode r)).length ≤ 4 := len_of_size (encode_size_le r)
theorem enc_len (r : Nat) : (enc r).length ≤ 4 := enc_len' (r : Int)
theorem flat_len (rs : List Nat) : (rs.flatMap enc).length ≤ 4 * rs.length := by
  induction rs with
  | nil => simp
  | cons r rs ih =>
    have := enc_len r
    rw [List.flatMap_cons, List.length_append, List.length_cons]; omega
theorem clean_len (l : Bs) : (clean l).length ≤ 4 * l.length := by
  have := flat_len (runes l); have := runes_length l
  unfold clean; omega
/-- sign.Clean. -/
theorem Clean_calls (A : Option Addr) (c : Nat) (l : Bs) (w : World) (hr : RdB w A l) (hl : l.length ≤ 4294967296) :
    Calls Try.prog 16 #[.slice A l.length c] w fun e w' => e = .returned (.string ⟨(clean l).toArray⟩) ∧ Below w.heap.size w w' := by
  go_enter Try.func16, Try.ntmps16
  go_wp2_with fail
  refine (Runes_calls A c l w hr hl).mono ?_
  rintro e w1 ⟨v, rfl, hrow, hb⟩
  obtain ⟨A1, c1, rfl, _, _, hrd, _⟩ := hrow.rd
  have hcv : (convert 29 9 (.slice A1 (runes l).length c1)).run Try.prog w1 = .ok (.string ⟨(clean l).toArray⟩) w1 := by
    rw [run_runes (P := Try.prog) w1 _ 21 _ Try.underlying29 Try.underlying21 Try.underlying9 A1 ((runes l).map (fun n : Nat => (n : Int))) _ c1 (by simp) (by rw [List.map_map]; exact hrd), runesBytes_nat]
    rfl
  clear hrow hrd
  go_wp2
  go_ret
  exact ⟨rfl, hb⟩
/-- (*sign.Feed).Waits. -/
theorem Waits_calls (g off : Nat) (A : Option Addr) (n c : Nat) (w : World) (hc : w.cell? ⟨g, off, none⟩ = some (.slice A n c)) :
    Calls Try.prog 22 #[.pointer (some ⟨g, off, none⟩)] w fun e w' => e = .returned (.bool (decide (0 < n))) ∧ w = w' := by
  go_enter Try.func22, Try.ntmps22
  go_wp2
  go_ret
  exact ⟨by simp, rfl⟩
set_option maxHeartbeats 400000 in
/-- (*sign.Feed).Flush. -/
theorem Flush_calls (g off : Nat) (cs : Array Value) (T : TypeId) (A : Option Addr) (c : Nat) (l : Bs) (w : World) (hg : w.heap[g]? = some (.cells cs T (0, 0))) (hv : cs[off]? = some (.slice A l.length c)) (hr : RdB w A l) (hl : l.length ≤ 4294967296) :
    Calls Try.prog 23 #[.pointer (some ⟨g, off, none⟩)] w fun e w' => ∃ r, e = .returned r ∧ Row w' w.heap.size 21 1 r (runes l).length ((runes l).map i32) ∧ w'.heap[g]? = some (.cells (cs.setIfInBounds off (.slice none 0 0)) T (0, 0)) ∧ Fr (fun k => k = g) w w' := by
  have hc : w.cell? ⟨g, off, none⟩ = some (.slice A l.length c) := by rw [cell_of_row w g off cs T (0, 0) hg]; exact hv
  have hf : w.frozen? ⟨g, off, none⟩ = false := frozen_of_row w g off cs T hg
  have hgl := lt_of_heap hg
  go_enter Try.func23, Try.ntmps23
  go_wp2_with (first | (go_at_call 15; refine (Runes_calls A c l w hr hl).mono ?_; rintro e w1 ⟨v, rfl, hrow, hb⟩; have hc1 := (hb.cell (p := ⟨g, off, none⟩) hgl).trans hc; have hf1 := (hb.frozen (p := ⟨g, off, none⟩) hgl).trans hf))
  go_ret
  refine ⟨v, rfl, hrow.at_ fun k hk => Below.heap_setCell _ _ _ _ (by have := (hrow.lt k hk).1; dsimp only; omega), ?_, ?_⟩
  · exact heap_setCell_same _ _ _ _ _ _ (by rw [hb.block g hgl]; exact hg)
  · exact (Fr.of_fresh hb).trans (Fr.setCell _ _ _) (fun i _ h => h)
end Go.Proofs.Ytphfopbklebeoaa
