import Derived.Test.YtpemjhghiccngaaDoorMem
import Derived.Test.YtpemjhghiccngaaDoorIn2
namespace Go.Proofs.YtpemjhghiccngaaDoor
set_option linter.unusedVariables false
set_option linter.unusedSimpArgs false
open Go.RowKit
/-! Entries: a time, a directory, a command. -/
structure EntT where
  t : Int
  d : Bs
  c : Bs
  deriving DecidableEq
def entV (e : EntT) : Value := .agg #[.int .i64 e.t, str e.d, str e.c]
def entCells (e : EntT) : List Value := [.int .i64 e.t, str e.d, str e.c]
def flatE (l : List EntT) : List Value := (l.map entCells).flatten
theorem flatE_cons (e : EntT) (l : List EntT) : flatE (e :: l) = entCells e ++ flatE l := by simp [flatE]
theorem flatE_app (a b : List EntT) : flatE (a ++ b) = flatE a ++ flatE b := by simp [flatE]
theorem flatE_len : (l : List EntT) → (flatE l).length = l.length * 3
  | [] => rfl
  | e :: l => by rw [flatE_cons, List.length_append, flatE_len l, List.length_cons]; simp [entCells]; omega
theorem flatE_take : (l : List EntT) → (k : Nat) → (flatE l).take (k * 3) = flatE (l.take k)
  | [], k => by simp [flatE]
  | e :: l, 0 => by simp [flatE]
  | e :: l, k + 1 => by
      rw [flatE_cons, List.take_succ_cons, flatE_cons, ← flatE_take l k, List.take_append]
      have : (entCells e).length = 3 := rfl
      rw [this, List.take_of_length_le (by rw [this]; omega), show (k + 1) * 3 - 3 = k * 3 by omega]
theorem flatE_drop : (l : List EntT) → (k : Nat) → (flatE l).drop (k * 3) = flatE (l.drop k)
  | [], k => by simp [flatE]
  | e :: l, 0 => by simp [flatE]
  | e :: l, k + 1 => by
      rw [flatE_cons, List.drop_succ_cons, ← flatE_drop l k, List.drop_append]
      have : (entCells e).length = 3 := rfl
      rw [this, List.drop_of_length_le (by rw [this]; omega), List.nil_append]
      congr 1; omega
theorem flatE_at : {l : List EntT} → {j : Nat} → {e : EntT} → l[j]? = some e → (flatE l)[j * 3]? = some (.int .i64 e.t) ∧ (flatE l)[j * 3 + 1]? = some (str e.d) ∧ (flatE l)[j * 3 + 2]? = some (str e.c)
  | p :: l, 0, e, h => by
      simp only [List.getElem?_cons_zero, Option.some.injEq] at h
      subst h
      exact ⟨rfl, rfl, rfl⟩
  | p :: l, j + 1, e, h => by
      obtain ⟨a, b, c⟩ := flatE_at (l := l) (j := j) (e := e) (by simpa using h)
      rw [flatE_cons]
      have hl : (entCells p).length = 3 := rfl
      refine ⟨?_, ?_, ?_⟩
      · rw [List.getElem?_append_right (by omega), hl, show (j + 1) * 3 - 3 = j * 3 by omega]; exact a
      · rw [List.getElem?_append_right (by omega), hl, show (j + 1) * 3 + 1 - 3 = j * 3 + 1 by omega]; exact b
      · rw [List.getElem?_append_right (by omega), hl, show (j + 1) * 3 + 2 - 3 = j * 3 + 2 by omega]; exact c
theorem RdE.at {w : World} {A : Option Addr} {l : List EntT} (h : Rd w A (flatE l)) {j : Nat} {e : EntT} (he : l[j]? = some e) :
    ∃ g off, A = some ⟨g, off, none⟩ ∧ w.cell? ⟨g, off + j * 3, none⟩ = some (.int .i64 e.t) ∧ w.cell? ⟨g, off + j * 3 + 1, none⟩ = some (str e.d) ∧ w.cell? ⟨g, off + j * 3 + 2, none⟩ = some (str e.c) := by
  obtain ⟨a, b, c⟩ := flatE_at he
  obtain ⟨g, off, rfl, h1⟩ := h _ _ a
  obtain ⟨g2, off2, e2, h2⟩ := h _ _ b
  obtain ⟨g3, off3, e3, h3⟩ := h _ _ c
  cases e2; cases e3
  exact ⟨g, off, rfl, h1, by rw [Nat.add_assoc]; exact h2, by rw [Nat.add_assoc]; exact h3⟩
theorem flatE_set : (l : List EntT) → (k : Nat) → (e : EntT) → (((flatE l).set (k * 3) (.int .i64 e.t)).set (k * 3 + 1) (str e.d)).set (k * 3 + 2) (str e.c) = flatE (l.set k e)
  | [], k, e => by simp [flatE]
  | p :: l, 0, e => by rw [List.set_cons_zero, flatE_cons, flatE_cons]; rfl
  | p :: l, k + 1, e => by
      rw [List.set_cons_succ, flatE_cons, flatE_cons, ← flatE_set l k e]
      have hl : (entCells p).length = 3 := rfl
      rw [List.set_append_right _ _ (by omega), List.set_append_right _ _ (by omega), List.set_append_right _ _ (by omega), hl, show (k + 1) * 3 - 3 = k * 3 by omega, show (k + 1) * 3 + 1 - 3 = k * 3 + 1 by omega, show (k + 1) * 3 + 2 - 3 = k * 3 + 2 by omega]
theorem flatE_one (l : List EntT) : ∀ u ∈ flatE l, u.oneCell' = true := by
  intro u hu
  obtain ⟨r, hr, hm⟩ := List.mem_flatten.1 hu
  obtain ⟨e, _, rfl⟩ := List.mem_map.1 hr
  simp only [entCells, List.mem_cons, List.not_mem_nil, or_false] at hm
  rcases hm with rfl | rfl | rfl <;> rfl
/-- Where the first one stands for which p says yes. -/
def idxI {α : Type} (l : List α) (p : α → Bool) : Int := if l.any p then (l.findIdx p : Int) else -1
theorem idxI_none {α : Type} {l : List α} {p : α → Bool} (h : ∀ x ∈ l, p x = false) : idxI l p = -1 := by
  unfold idxI
  rw [if_neg]
  simp only [List.any_eq_true, not_exists, not_and]
  intro x hx; rw [h x hx]; simp
theorem idxI_at {α : Type} {l : List α} {p : α → Bool} {k : Nat} {x : α} (hx : l[k]? = some x) (hp : p x = true) (h : ∀ y ∈ l.take k, p y = false) : idxI l p = (k : Int) := by
  unfold idxI
  have hk := (List.getElem?_eq_some_iff.1 hx)
  obtain ⟨hk, e⟩ := hk
  rw [if_pos (List.any_eq_true.2 ⟨x, by rw [← e]; exact List.getElem_mem hk, hp⟩)]
  congr 1
  rw [List.findIdx_eq hk]
  refine ⟨by rw [e]; exact hp, fun j hj => ?_⟩
  exact h _ (List.mem_take_iff_getElem.2 ⟨j, by omega, rfl⟩)
end Go.Proofs.YtpemjhghiccngaaDoor
