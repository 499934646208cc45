import Derived.Test.YtkpfendodmfeoaaTz1
namespace Go.Proofs.Ytkpfendodmfeoaa
set_option linter.unusedVariables false
set_option linter.unusedSimpArgs false
open Go.RowKit Go.ChangeShapes Go.WideShapes Go.Deep
theorem in_ops {H : Type} {enc : TypeId × Value → H} {w : World} {r : Reach} {b0 : Nat} {v : Value} {d : DataW H} {p : List MemPlace} (hv : Value.okWide Try.prog w r b0 32 v) (h : DataW.Trod enc Try.prog w 0 (fun _ => true) true 32 v d p) (hz : ∀ n ∈ d.weights Try.prog 32, n ≤ reachBytes) :
    ∃ A c ops, v = .slice A ops.length c ∧ Rd w A (flatO ops) ∧ (∀ a, A = some a → ops ≠ [] → a.block < w.heap.size) ∧ ops.length ≤ 140737488351232 ∧ ∀ o ∈ ops, o.key.length ≤ 140737488351232 := by
  obtain ⟨A, n, c, rows, rfl, h1, h2, h3, h4, h5, h6⟩ := in_rows (by_ := 32) Try.underlying32 Try.underlying35 (by kernel_rfl) (by kernel_rfl) (by decide) (by kernel_rfl) hv h hz
  obtain ⟨ops, hops, hall⟩ := exists_map (f := opCells) (p := fun o => o.key.length ≤ 140737488351232) rows (fun r hr => by
    obtain ⟨hl, hf⟩ := h6 r hr
    match r, hl with
    | [x0, x1, x2], _ =>
      obtain ⟨k, rfl, _⟩ := (hf 0 _ x0 rfl rfl).int Try.underlying3
      obtain ⟨s, rfl, hs⟩ := (hf 1 _ x1 rfl rfl).string Try.underlying9
      obtain ⟨x, rfl, _⟩ := (hf 2 _ x2 rfl rfl).int Try.underlying3
      refine ⟨⟨k, s.data.toList, x⟩, ?_, ?_⟩
      · show _ = [Value.int .i64 k, .string ⟨s.data.toList.toArray⟩, .int .i64 x]
        rw [ba_eq]
      · rw [Array.length_toList]; exact hs)
  subst hops
  rw [List.length_map] at h4
  have hb : c * 32 ≤ 140737488351232 := h3
  refine ⟨A, c, ops, by rw [h4], h5, fun a ha hne => h5.lt ha (fun e => ?_), by omega, hall⟩
  cases ops with
  | nil => exact hne rfl
  | cons o os => simp [opCells] at e
theorem in_strs {H : Type} {enc : TypeId × Value → H} {w : World} {r : Reach} {b0 : Nat} {v : Value} {d : DataW H} {p : List MemPlace} (hv : Value.okWide Try.prog w r b0 22 v) (h : DataW.Trod enc Try.prog w 0 (fun _ => true) true 22 v d p) (hz : ∀ n ∈ d.weights Try.prog 22, n ≤ reachBytes) :
    ∃ A c ks, v = .slice A ks.length c ∧ ks.length ≤ c ∧ c ≤ 140737488351232 ∧ Rd w A (ks.map str) ∧ (∀ a, A = some a → ks ≠ [] → a.block < w.heap.size) ∧ ∀ k ∈ ks, k.length ≤ 140737488351232 := by
  obtain ⟨A, n, c, xs, rfl, h1, h2, h3, h4, h5, h6⟩ := in_row1 (by_ := 16) Try.underlying22 (by kernel_rfl) (by kernel_rfl) hv h hz
  obtain ⟨ks, rfl, hall⟩ := exists_map (f := str) (p := fun k => k.length ≤ 140737488351232) xs (fun x hx => by
    obtain ⟨s, rfl, hs⟩ := (h6 x hx).string Try.underlying9
    exact ⟨s.data.toList, by show Value.string s = .string ⟨s.data.toList.toArray⟩; rw [ba_eq], by rw [Array.length_toList]; exact hs⟩)
  rw [List.length_map] at h4
  have hb : c * 16 ≤ 140737488351232 := h3
  refine ⟨A, c, ks, by rw [h4], by omega, by omega, h5, fun a ha hne => h5.lt ha (fun e => ?_), hall⟩
  cases ks with
  | nil => exact hne rfl
  | cons o os => simp at e
end Go.Proofs.Ytkpfendodmfeoaa
