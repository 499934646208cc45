import Derived.Test.YtfgjhfmgacopoaaDoorMem
import Derived.Test.YtfgjhfmgacopoaaDoorPu
import Derived.Lib.ConvBytes
namespace Go.Proofs.YtfgjhfmgacopoaaDoor
open Go.RowKit
/-- '[]byte(s)'. -/
theorem conv_bytes {P : Program} (w : World) (src dst e : TypeId) (l : Bs) {u : TypeDesc} (hs : P.underlying src = some u) (hd : P.underlying dst = some (.slice e)) (he : P.underlying e = some (.int .u8)) (hl : l.length ≤ maxLen) :
    ∃ cap W, (convert src dst (.string ⟨l.toArray⟩)).run P w = .ok (.slice (some ⟨w.heap.size, 0, none⟩) l.length cap) W ∧ l.length ≤ cap ∧ cap ≤ maxLen ∧ RdB W (some ⟨w.heap.size, 0, none⟩) l ∧ Below w.heap.size w W := by
  have hsz : (⟨l.toArray⟩ : ByteArray).size = l.length := by simp [ByteArray.size]
  refine ⟨_, _, by rw [Lib.run_convert_string_bytes w src dst e _ hs hd he, hsz], grownCap_ge _ _ _ _, grownCap_le_maxLen _ _ _ _ hl, ?_, ?_⟩
  · intro k u hk
    refine ⟨_, _, rfl, ?_⟩
    have hlt : k < l.length := by simpa using (List.getElem?_eq_some_iff.1 hk).1
    rw [Nat.zero_add, Lib.bytesWorld_cell _ _ _ _ (by rw [hsz]; exact hlt)]
    rw [List.getElem?_map, List.getElem?_eq_getElem hlt] at hk
    simp at hk
    rw [← hk]
    simp [List.getD, hlt]
  · exact ⟨rfl, rfl, rfl, by rw [Lib.bytesWorld_size]; omega, fun k hk => Lib.bytesWorld_at_old _ _ _ _ hk⟩
theorem runes_le (l : Bs) : ∀ r ∈ runes l, r ≤ 4294967296 := fun r hr => by
  have := (valid_iff _).1 (runes_val l r hr); omega
end Go.Proofs.YtfgjhfmgacopoaaDoor
