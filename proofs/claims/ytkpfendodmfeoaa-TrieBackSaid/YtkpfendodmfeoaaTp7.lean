import Derived.Test.YtkpfendodmfeoaaTp6
namespace Go.Proofs.Ytkpfendodmfeoaa
set_option linter.unusedVariables false
set_option linter.unusedSimpArgs false
variable {α : Type}
theorem com_lt : (a b c : Bs) → com a b < com a c → com b c = com a b
  | [], b, c, h => by simp [com] at h
  | x :: a, [], c, h => by cases c <;> rfl
  | x :: a, y :: b, [], h => by simp [com] at h
  | x :: a, y :: b, z :: c, h => by
      unfold com at h ⊢
      by_cases hxy : x = y
      · subst hxy
        by_cases hxz : x = z
        · subst hxz
          simp at h ⊢
          have := com_lt a b c (by omega)
          omega
        · simp [hxz] at h
      · by_cases hxz : x = z
        · subst hxz
          have : ¬ y = x := fun e => hxy e.symm
          simp [hxy, this]
        · simp [hxy, hxz] at h
theorem lcp_lt {a b c : Bs} (h : com a b < com a c) : lcp a b = lcp b c := by
  have e := com_lt a b c h
  unfold lcp
  rw [com_take, e]
theorem nodup_le : (a b : List Bs) → a.Nodup → (∀ x ∈ a, x ∈ b) → a.length ≤ b.length
  | [], b, _, _ => Nat.zero_le _
  | x :: a, b, hn, hs => by
      obtain ⟨h1, h2⟩ := List.nodup_cons.1 hn
      have hx := hs x (List.mem_cons_self ..)
      have h3 := nodup_le a (b.erase x) h2 fun y hy => by
        refine (List.mem_erase_of_ne (fun e => h1 (by rw [← e]; exact hy))).2 (hs y (List.mem_cons_of_mem _ hy))
      rw [List.length_erase_of_mem hx] at h3
      have : 0 < b.length := List.length_pos_of_mem hx
      rw [List.length_cons]; omega
theorem max_com (k : Bs) : (l : Ents α) → l = [] ∨ ∃ q0 ∈ l, ∀ q ∈ l, com k q.1 ≤ com k q0.1
  | [] => .inl rfl
  | x :: l => by
      right
      rcases max_com k l with e | ⟨q0, h1, h2⟩
      · subst e; exact ⟨x, by simp, fun q hq => by simp at hq; rw [hq]; omega⟩
      · by_cases h : com k q0.1 ≤ com k x.1
        · refine ⟨x, List.mem_cons_self .., fun q hq => ?_⟩
          rcases List.mem_cons.1 hq with e | e
          · rw [e]; omega
          · have := h2 q e; omega
        · refine ⟨q0, List.mem_cons_of_mem _ h1, fun q hq => ?_⟩
          rcases List.mem_cons.1 hq with e | e
          · rw [e]; omega
          · exact h2 q e
theorem nodes_put {l l2 : Ents α} {k : Bs} {v : α} {n m : Nat} (h1 : ∀ q ∈ l2, q ∈ l ∨ q = (k, v)) (h2 : ∀ q ∈ l, q ∈ l2) (hn : NodesOf l n) (hm : NodesOf l2 m) : n ≤ m ∧ m ≤ n + 2 := by
  obtain ⟨M1, rfl, d1, e1⟩ := hn
  obtain ⟨M2, rfl, d2, e2⟩ := hm
  constructor
  · refine nodup_le M1 M2 d1 fun p hp => (e2 p).2 ?_
    rcases (e1 p).1 hp with e | ⟨q1, a, q2, b, c⟩
    · exact .inl e
    · exact .inr ⟨q1, h2 q1 a, q2, h2 q2 b, c⟩
  · have one : ∀ q ∈ l, lcp k q.1 ∈ M1 ∨ ∃ q0 ∈ l, (∀ q ∈ l, com k q.1 ≤ com k q0.1) ∧ lcp k q.1 = lcp k q0.1 := fun q hq => by
      rcases max_com k l with e | ⟨q0, a, b⟩
      · subst e; cases hq
      · by_cases h : com k q.1 < com k q0.1
        · exact .inl ((e1 _).2 (.inr ⟨q, hq, q0, a, lcp_lt h⟩))
        · exact .inr ⟨q0, a, b, by unfold lcp; have := b q hq; rw [show com k q.1 = com k q0.1 by omega]⟩
    obtain ⟨t, ht⟩ : ∃ t : Bs, ∀ q ∈ l, lcp k q.1 ∈ M1 ∨ lcp k q.1 = t := by
      rcases max_com k l with e | ⟨q0, a, b⟩
      · exact ⟨[], fun q hq => by subst e; cases hq⟩
      · refine ⟨lcp k q0.1, fun q hq => ?_⟩
        by_cases h : com k q.1 < com k q0.1
        · exact .inl ((e1 _).2 (.inr ⟨q, hq, q0, a, lcp_lt h⟩))
        · exact .inr (by unfold lcp; have := b q hq; rw [show com k q.1 = com k q0.1 by omega])
    have := nodup_le M2 (k :: t :: M1) d2 fun p hp => by
      have two : ∀ q ∈ l, lcp k q.1 ∈ k :: t :: M1 := fun q hq => by
        rcases ht q hq with e | e
        · exact List.mem_cons_of_mem _ (List.mem_cons_of_mem _ e)
        · rw [e]; exact List.mem_cons_of_mem _ (List.mem_cons_self ..)
      rcases (e2 p).1 hp with e | ⟨q1, a, q2, b, rfl⟩
      · exact List.mem_cons_of_mem _ (List.mem_cons_of_mem _ ((e1 p).2 (.inl e)))
      · rcases h1 q1 a with a | a <;> rcases h1 q2 b with b | b
        · exact List.mem_cons_of_mem _ (List.mem_cons_of_mem _ ((e1 _).2 (.inr ⟨q1, a, q2, b, rfl⟩)))
        · rw [b, show lcp q1.1 (k, v).1 = lcp k q1.1 by unfold lcp; rw [com_take, com_comm]]
          exact two q1 a
        · rw [a]; exact two q2 b
        · rw [a, b]
          show lcp k k ∈ _
          rw [lcp_self]; exact List.mem_cons_self ..
    simpa using this
theorem lget_none_of {l : Ents α} {k : Bs} (hr : Rise l) (h : lget l k = none) : ∀ q ∈ l, q.1 ≠ k := fun q hq e => by
  have : ∀ {l : Ents α}, lget l k = none → ∀ q ∈ l, q.1 ≠ k := by
    intro l
    induction l with
    | nil => intro _ q hq; cases hq
    | cons x l ih =>
      intro h q hq e
      unfold lget at h
      split at h
      · cases h
      · rename_i hne
        rcases List.mem_cons.1 hq with e2 | e2
        · exact hne (by rw [← e2]; exact e)
        · exact ih h q e2 e
  exact this h q hq e
theorem mem_lput {k : Bs} {v : α} : {l : Ents α} → {q : Bs × α} → q ∈ l → q.1 ≠ k → q ∈ lput l k v
  | (x, u) :: l, q, h, hne => by
      unfold lput
      split
      · rcases List.mem_cons.1 h with e | e
        · rw [e]; exact List.mem_cons_self ..
        · exact List.mem_cons_of_mem _ (mem_lput e hne)
      · split
        · rename_i hk
          rcases List.mem_cons.1 h with e | e
          · exact absurd (by rw [e]; exact hk) hne
          · exact List.mem_cons_of_mem _ e
        · exact List.mem_cons_of_mem _ h
theorem ldrop_lput {k : Bs} {v : α} : {l : Ents α} → (∀ q ∈ l, q.1 ≠ k) → ldrop (lput l k v) k = l
  | [], _ => by simp [lput, ldrop]
  | (x, u) :: l, h => by
      have hx : x ≠ k := h (x, u) (List.mem_cons_self ..)
      have hl : ∀ q ∈ l, q.1 ≠ k := fun q hq => h q (List.mem_cons_of_mem _ hq)
      unfold lput
      split
      · have := ldrop_lput (v := v) hl
        unfold ldrop at this ⊢
        rw [List.filter_cons_of_pos (by simpa using hx), this]
      · have := ldrop_none (l := (x, u) :: l) h
        unfold ldrop at this ⊢
        rw [List.filter_cons_of_neg (by simp), this]
end Go.Proofs.Ytkpfendodmfeoaa
