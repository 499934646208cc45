import Derived.Test.YtkpfendodmfeoaaTy1
namespace Go.Proofs.Ytkpfendodmfeoaa
set_option linter.unusedVariables false
set_option linter.unusedSimpArgs false
open Go.RowKit Go.Shelf
attribute [local go_sem] Oper.semAt_some
def kGit : Bs := [103, 105, 116]
def kGitk : Bs := [103, 105, 116, 107]
def kGo : Bs := [103, 111]
def kGi : Bs := [103, 105]
def kG : Bs := [103]
def kKraken : Bs := [103, 105, 116, 107, 114, 97, 107, 101, 110]
def aL1 : Ents V := [(kGit, 1)]
def aL2 : Ents V := [(kGit, 1), (kGitk, 2)]
def aL3 : Ents V := [(kGit, 1), (kGitk, 2), (kGo, 3)]
def aL4 : Ents V := [(kGit, 1), (kGitk, 2), (kGo, 4)]
def aL5 : Ents V := [(kGitk, 2), (kGo, 4)]
theorem a_put1 : lput [] kGit (1 : V) = aL1 ∧ (lget ([] : Ents V) kGit).isSome = false := ⟨rfl, rfl⟩
theorem a_put2 : lput aL1 kGitk (2 : V) = aL2 ∧ (lget aL1 kGitk).isSome = false := by decide
theorem a_put3 : lput aL2 kGo (3 : V) = aL3 ∧ (lget aL2 kGo).isSome = false := by decide
theorem a_put4 : lput aL3 kGo (4 : V) = aL4 ∧ (lget aL3 kGo).isSome = true := by decide
theorem a_get : lget aL4 kGo = some 4 := by decide
theorem a_under : lunder aL4 kGi = aL2 := by decide
theorem a_many : (lunder aL4 kG).length = 3 := by decide
theorem a_drop : ldrop aL4 kGit = aL5 ∧ (lget aL4 kGit).isSome = true := by decide
theorem a_drop2 : ldrop aL5 kGi = aL5 ∧ (lget aL5 kGi).isSome = false := by decide
theorem a_keys (L : Nat) (h : 9 ≤ L) : KeysLe L aL1 ∧ KeysLe L aL2 ∧ KeysLe L aL3 ∧ KeysLe L aL4 ∧ KeysLe L aL5 := by
  have key : ∀ l : Ents V, (l.all fun q => decide (q.1.length ≤ 9)) = true → KeysLe L l := fun l h2 q hq => by
    have := List.all_eq_true.1 h2 q hq
    simp at this; omega
  exact ⟨key _ (by decide), key _ (by decide), key _ (by decide), key _ (by decide), key _ (by decide)⟩
theorem a_longest : LgOf aL4 kKraken (some 4) := ⟨by decide, ⟨(kGitk, 2), by decide, by decide⟩, fun q hq _ => by
  have : ∀ q ∈ aL4, q.1.length ≤ 4 := by decide
  exact this q hq⟩
theorem a_nodes : NodesOf aL4 5 := ⟨[[], kG, kGit, kGitk, kGo], rfl, by decide, fun p => by
  constructor
  · intro h
    have h2 : ∀ p ∈ ([[], kG, kGit, kGitk, kGo] : List Bs), p = [] ∨ (aL4.any fun q1 => aL4.any fun q2 => decide (p = lcp q1.1 q2.1)) = true := by decide
    rcases h2 p h with e | e
    · exact .inl e
    · obtain ⟨q1, a, b⟩ := List.any_eq_true.1 e
      obtain ⟨q2, c, d⟩ := List.any_eq_true.1 b
      exact .inr ⟨q1, a, q2, c, of_decide_eq_true d⟩
  · rintro (e | ⟨q1, a, q2, b, rfl⟩)
    · rw [e]; decide
    · have h2 : ∀ q1 ∈ aL4, ∀ q2 ∈ aL4, lcp q1.1 q2.1 ∈ ([[], kG, kGit, kGitk, kGo] : List Bs) := by decide
      exact h2 q1 a q2 b⟩
theorem a_nodes5 : NodesOf aL5 4 := ⟨[[], kG, kGitk, kGo], rfl, by decide, fun p => by
  constructor
  · intro h
    have h2 : ∀ p ∈ ([[], kG, kGitk, kGo] : List Bs), p = [] ∨ (aL5.any fun q1 => aL5.any fun q2 => decide (p = lcp q1.1 q2.1)) = true := by decide
    rcases h2 p h with e | e
    · exact .inl e
    · obtain ⟨q1, a, b⟩ := List.any_eq_true.1 e
      obtain ⟨q2, c, d⟩ := List.any_eq_true.1 b
      exact .inr ⟨q1, a, q2, c, of_decide_eq_true d⟩
  · rintro (e | ⟨q1, a, q2, b, rfl⟩)
    · rw [e]; decide
    · have h2 : ∀ q1 ∈ aL5, ∀ q2 ∈ aL5, lcp q1.1 q2.1 ∈ ([[], kG, kGitk, kGo] : List Bs) := by decide
      exact h2 q1 a q2 b⟩
end Go.Proofs.Ytkpfendodmfeoaa
