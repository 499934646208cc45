import Derived.Test.YtfgjhfmgacopoaaDoorSg1
namespace Go.Proofs.YtfgjhfmgacopoaaDoor
open Go.RowKit
theorem RdB.cell {w : World} {A : Option Addr} {l : Bs} (h : RdB w A l) (h0 : l ≠ []) : ∃ b off, A = some ⟨b, off, none⟩ ∧ ∀ k, k < l.length → w.cell? ⟨b, off + k, none⟩ = some (.int .u8 (at' l k : Int)) := by
  have hl : 0 < l.length := List.length_pos_iff.2 h0
  obtain ⟨b, off, rfl, _⟩ := h 0 (byt l[0]) (by simp [hl])
  refine ⟨b, off, rfl, fun k hk => ?_⟩
  obtain ⟨b', off', e, hc⟩ := h k (byt l[k]) (by rw [List.getElem?_map, List.getElem?_eq_getElem hk]; rfl)
  cases e
  rw [hc]; simp [byt, at', List.getD, hk]
theorem Tryd.info_u8 : (Tryd.prog.info? 5).map (fun i => (i.zero, i.size, i.bytes)) = some (some (.int .u8 0), 1, 1) := by kernel_rfl
theorem len_of_size {s : ByteArray} {n : Nat} (h : s.size ≤ n) : s.data.toList.length ≤ n := by rw [Array.length_toList]; exact h
theorem enc_len' (r : Int) : (bl (Utf8.encode r)).length ≤ 4 := len_of_size (encode_size_le r)
theorem enc_len (r : Nat) : (enc r).length ≤ 4 := enc_len' (r : Int)
theorem flat_len (rs : List Nat) : (rs.flatMap enc).length ≤ 4 * rs.length := by
  induction rs with
  | nil => simp
  | cons r rs ih =>
    have := enc_len r
    rw [List.flatMap_cons, List.length_append, List.length_cons]; omega
theorem clean_len (l : Bs) : (clean l).length ≤ 4 * l.length := by
  have := flat_len (runes l); have := runes_length l
  unfold clean; omega
/-- sign.Clean. -/
theorem Clean_calls (A : Option Addr) (c : Nat) (l : Bs) (w : World) (hr : RdB w A l) (hl : l.length ≤ 4294967296) :
    Calls Tryd.prog 65 #[.slice A l.length c] w fun e w' => e = .returned (.string ⟨(clean l).toArray⟩) ∧ Below w.heap.size w w' := by
  go_enter Tryd.func65, Tryd.ntmps65
  go_wp2_with fail
  refine (Runes_calls A c l w hr hl).mono ?_
  rintro e w1 ⟨v, rfl, hrow, hb⟩
  obtain ⟨A1, c1, rfl, _, _, hrd, _⟩ := hrow.rd
  have hcv : (convert 130 9 (.slice A1 (runes l).length c1)).run Tryd.prog w1 = .ok (.string ⟨(clean l).toArray⟩) w1 := by
    rw [run_runes (P := Tryd.prog) w1 _ 21 _ Tryd.underlying130 Tryd.underlying21 Tryd.underlying9 A1 ((runes l).map (fun n : Nat => (n : Int))) _ c1 (by simp) (by rw [List.map_map]; exact hrd), runesBytes_nat]
    rfl
  clear hrow hrd
  go_wp2
  go_ret
  exact ⟨rfl, hb⟩
theorem nxt_ne {l : Bs} (h : l ≠ []) : nxt l = dec l := by simp [nxt, h]
theorem row_cell {w : World} {g off : Nat} {cs : Array Value} {T : TypeId} {v : Value} (hg : w.heap[g]? = some (.cells cs T (0, 0))) (hv : cs[off]? = some v) : w.cell? ⟨g, off, none⟩ = some v := by
  rw [cell_of_row w g off cs T (0, 0) hg]; exact hv
end Go.Proofs.YtfgjhfmgacopoaaDoor
