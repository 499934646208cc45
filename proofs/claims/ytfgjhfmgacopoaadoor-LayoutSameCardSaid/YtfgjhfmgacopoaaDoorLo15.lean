import Derived.Test.YtfgjhfmgacopoaaDoorLo14
import Derived.Test.YtfgjhfmgacopoaaDoorTt1
namespace Go.Proofs.YtfgjhfmgacopoaaDoor
set_option linter.unusedVariables false
set_option linter.unusedSimpArgs false
open Go.RowKit Go.Shelf
/-! Chapter 18: alive. -/
def sgF18 : Nat → Bs → List Bs
  | 0, _ => []
  | n + 1, l => if l = [] then [] else l.take (dec l).2 :: sgF18 n (l.drop (dec l).2)
theorem sgF18_eq : ∀ (n : Nat) (l : Bs), l.length ≤ n → sgF18 n l = sg l := by
  intro n
  induction n with
  | zero => intro l h; have : l = [] := List.eq_nil_of_length_eq_zero (by omega); subst this; rw [sg_nil]; rfl
  | succ n ih =>
    intro l h
    by_cases h0 : l = []
    · subst h0; rw [sg_nil]; rfl
    · have := dec_pos l
      rw [sg_cons h0, sgF18, if_neg h0, ih _ (by simp; omega)]
theorem cuts_F18 (l : Bs) : cuts l = cutP (sgF18 l.length l) := by unfold cuts; rw [← sgF18_eq _ l (Nat.le_refl _)]
def alV : ViewT := ⟨2, 8, [36], [], [99, 100, 101, 102, 103, 104], [97, 98], 2⟩
def alV2 : ViewT := ⟨2, 8, [36], [114, 112, 114], [], [97, 98], 2⟩
def alV3 : ViewT := ⟨1, 3, [], [], [], [], 0⟩
set_option maxRecDepth 100000 in
theorem al18_pl : plainL [36] = [36] ∧ plainL [97, 98] = [97, 98] ∧ plainL [99, 100, 101, 102, 103, 104] = [99, 100, 101, 102, 103, 104] ∧ plainL [] = [] ∧ plainL [114, 112, 114] = [114, 112, 114] := by
  unfold plainL
  refine ⟨?_, ?_, ?_, ?_, ?_⟩ <;> decide
def alRow : RowT := [⟨[36], 1, false⟩, ⟨[97], 1, false⟩, ⟨[98], 1, false⟩, ⟨[99], 1, true⟩, ⟨[100], 1, true⟩, ⟨[101], 1, true⟩, ⟨[102], 1, true⟩, dotsC]
set_option maxRecDepth 100000 in
theorem al18_of : alV.of = ⟨[alRow], 0, 3⟩ := by
  unfold ViewT.of ViewT.drawn ViewT.top ViewT.cursor ViewT.isR ViewT.first ViewT.A ViewT.gh ViewT.s3 ViewT.s2 ViewT.s1 ViewT.atEnd ViewT.at' ViewT.pr ViewT.tx alV back
  simp only [al18_pl]
  simp only [cuts_F18]
  kernel_rfl
set_option maxRecDepth 100000 in
theorem al18_r2 : alV2.isR = true := by
  unfold ViewT.isR ViewT.first ViewT.A ViewT.gh ViewT.s3 ViewT.s2 ViewT.s1 ViewT.atEnd ViewT.at' ViewT.pr ViewT.tx alV2 back
  simp only [al18_pl]
  simp only [cuts_F18]
  kernel_rfl
set_option maxRecDepth 100000 in
theorem al18_r3 : alV3.isR = false := by
  unfold ViewT.isR ViewT.pr alV3
  simp only [al18_pl]
  rfl
end Go.Proofs.YtfgjhfmgacopoaaDoor
