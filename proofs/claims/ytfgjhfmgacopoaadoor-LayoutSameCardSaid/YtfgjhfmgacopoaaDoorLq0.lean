import Derived.Test.YtfgjhfmgacopoaaDoorLo16
import Derived.Test.YtfgjhfmgacopoaaDoorLp2
import Derived.Test.YtfgjhfmgacopoaaDoorIn2
namespace Go.Proofs.YtfgjhfmgacopoaaDoor
set_option linter.unusedVariables false
set_option linter.unusedSimpArgs false
open Go.RowKit Go.Shelf
/-! Chapter 18: views that came in. -/
def RvAt (w : World) (b : Nat) (v : ViewT) : Prop := w.heap[b]? = some (.cells v.cs 23 (0, 0))
theorem RvAt.cells {w : World} {b : Nat} {v : ViewT} (h : RvAt w b v) : w.cell? ⟨b, 0, none⟩ = some (.int .i64 v.rows) ∧ w.cell? ⟨b, 1, none⟩ = some (.int .i64 v.cols) ∧ w.cell? ⟨b, 2, none⟩ = some (str v.left) ∧
    w.cell? ⟨b, 3, none⟩ = some (str v.right) ∧ w.cell? ⟨b, 4, none⟩ = some (str v.ghost) ∧ w.cell? ⟨b, 5, none⟩ = some (str v.text) ∧ w.cell? ⟨b, 6, none⟩ = some (.int .i64 v.at_) := by
  have hb : w.heap[b]? = some (.cells v.cs 23 (0, 0)) := h
  simp [World.cell?, hb, ViewT.cs]
def ViewT.lens (v : ViewT) : Prop := v.left.length ≤ 140737488351232 ∧ v.right.length ≤ 140737488351232 ∧ v.ghost.length ≤ 140737488351232 ∧ v.text.length ≤ 140737488351232
set_option maxRecDepth 100000 in
theorem in_view {H : Type} {enc : TypeId × Value → H} {w : World} {r : Reach} {b0 : Nat} {v : Value} {d : DataW H} {p : List MemPlace} (hv : Value.okWide Tryd.prog w r b0 23 v) (h : DataW.Trod enc Tryd.prog w 0 (fun _ => true) true 23 v d p) (hz : ∀ n ∈ d.weights Tryd.prog 23, n ≤ reachBytes) :
    ∃ e : ViewT, v = e.val ∧ e.lens := by
  obtain ⟨xs, rfl, hsz, hf⟩ := in_struct Tryd.underlying23 (by kernel_rfl) (by kernel_rfl) hv h hz
  obtain ⟨xs⟩ := xs
  match xs, hsz with
  | [x0, x1, x2, x3, x4, x5, x6], _ =>
    obtain ⟨n, rfl, _⟩ := (hf 0 _ x0 rfl rfl).int Tryd.underlying3
    obtain ⟨c, rfl, _⟩ := (hf 1 _ x1 rfl rfl).int Tryd.underlying3
    obtain ⟨s2, rfl, h2⟩ := (hf 2 _ x2 rfl rfl).string Tryd.underlying9
    obtain ⟨s3, rfl, h3⟩ := (hf 3 _ x3 rfl rfl).string Tryd.underlying9
    obtain ⟨s4, rfl, h4⟩ := (hf 4 _ x4 rfl rfl).string Tryd.underlying9
    obtain ⟨s5, rfl, h5⟩ := (hf 5 _ x5 rfl rfl).string Tryd.underlying9
    obtain ⟨a, rfl, _⟩ := (hf 6 _ x6 rfl rfl).int Tryd.underlying3
    refine ⟨⟨n, c, s2.data.toList, s3.data.toList, s4.data.toList, s5.data.toList, a⟩, ?_, ?_⟩
    · show _ = Value.agg #[.int .i64 n, .int .i64 c, .string ⟨s2.data.toList.toArray⟩, .string ⟨s3.data.toList.toArray⟩, .string ⟨s4.data.toList.toArray⟩, .string ⟨s5.data.toList.toArray⟩, .int .i64 a]
      rw [ba_eq, ba_eq, ba_eq, ba_eq]
    · unfold ViewT.lens
      dsimp only
      rw [Array.length_toList, Array.length_toList, Array.length_toList, Array.length_toList]; exact ⟨h2, h3, h4, h5⟩
/-- Where the law asks nothing: 'alive' alone. -/
theorem fewB_small {v : ViewT} (h : v.fewB = true) : v.small := by
  unfold ViewT.fewB at h
  unfold ViewT.small
  simpa using h
end Go.Proofs.YtfgjhfmgacopoaaDoor
