import Derived.Test.YticaeflnpgbngaaDoorMem
namespace Go.Proofs.YticaeflnpgbngaaDoor
open Go.RowKit
/-! What came in. -/
theorem wf_u8 {n : Int} (h : (Lit.int .u8 n).wf = true) : 0 ≤ n ∧ n ≤ 255 := by
  simp [Lit.wf, IntKind.min, IntKind.max, IntKind.signed, IntKind.bits] at h; omega
theorem wf_i64 {n : Int} (h : (Lit.int .i64 n).wf = true) : -9223372036854775808 ≤ n ∧ n ≤ 9223372036854775807 := by
  simp [Lit.wf, IntKind.min, IntKind.max, IntKind.signed, IntKind.bits] at h; omega
theorem wf_i32 {n : Int} (h : (Lit.int .i32 n).wf = true) : -2147483648 ≤ n ∧ n ≤ 2147483647 := by
  simp [Lit.wf, IntKind.min, IntKind.max, IntKind.signed, IntKind.bits] at h; omega
/-- A slice of bytes that came in. -/
theorem in_bytes {w : World} {a : Option Addr} {len cap : Nat} {zs : List Int}
    (h : (a = none ∧ len = 0 ∧ cap = 0 ∧ zs = []) ∨ ∃ x, a = some x ∧ len ≤ cap ∧ cap ≤ maxLen ∧ zs.length = cap ∧ (∀ i, i < zs.length → w.cell? (x.add i) = some (.int .u8 (zs.getD i 0))) ∧ ∀ n ∈ zs, (Lit.int .u8 n).wf = true) :
    ∃ l : Bs, len = l.length ∧ RdB w a l ∧ l.length ≤ cap ∧ cap ≤ maxLen := by
  rcases h with ⟨rfl, rfl, rfl, rfl⟩ | ⟨x, rfl, h1, h2, h3, h4, h5⟩
  · exact ⟨[], rfl, Rd.nil _ _, Nat.le_refl _, Nat.zero_le _⟩
  · refine ⟨(zs.take len).map fun n => UInt8.ofNat n.toNat, by simp; omega, ?_, by simp; omega, h2⟩
    intro k u hk
    rw [List.map_map, List.getElem?_map, List.getElem?_take] at hk
    split at hk
    · rename_i hlt
      rw [List.getElem?_eq_getElem (show k < zs.length by omega)] at hk
      simp at hk
      have hc := h4 k (by omega)
      have hb := wf_u8 (h5 _ (List.getElem_mem (show k < zs.length by omega)))
      have hs : x.spot = none ∨ k ≠ 0 := by
        by_cases h0 : k = 0
        · subst h0
          left
          unfold World.cell? at hc
          simp only [Addr.add, if_true] at hc
          split at hc
          · split at hc
            · cases hc
            · rename_i h; simpa using h
          · cases hc
        · exact .inr h0
      have hs0 : x.spot = none := by
        have hc0 := h4 0 (by omega)
        unfold World.cell? at hc0
        simp only [Addr.add, if_true] at hc0
        split at hc0
        · split at hc0
          · cases hc0
          · rename_i h; simpa using h
        · cases hc0
      obtain ⟨b, off, spot⟩ := x
      dsimp only at hs0
      subst hs0
      refine ⟨b, off, rfl, ?_⟩
      have hp : (⟨b, off, none⟩ : Addr).add k = ⟨b, off + k, none⟩ := by unfold Addr.add; split <;> simp_all
      rw [hp] at hc
      rw [hc, ← hk]
      simp [List.getD, show k < zs.length by omega]
      omega
    · cases hk
end Go.Proofs.YticaeflnpgbngaaDoor
