import Derived.Test.YtkpfendodmfeoaaTp5
namespace Go.Proofs.Ytkpfendodmfeoaa
set_option linter.unusedVariables false
set_option linter.unusedSimpArgs false
variable {α : Type}
/-! Which texts are nodes. -/
def lcp (a b : Bs) : Bs := a.take (com a b)
theorem com_self : (a : Bs) → com a a = a.length
  | [] => rfl
  | x :: a => by simp [com, com_self a]
theorem lcp_self (a : Bs) : lcp a a = a := by unfold lcp; rw [com_self, List.take_length]
theorem com_pre (p a b : Bs) : com (p ++ a) (p ++ b) = p.length + com a b := by
  induction p with
  | nil => simp
  | cons x p ih => simp [com, ih]; omega
theorem lcp_pre (p a b : Bs) : lcp (p ++ a) (p ++ b) = p ++ lcp a b := by
  unfold lcp
  rw [com_pre, List.take_append, List.take_of_length_le (by omega), Nat.add_sub_cancel_left]
theorem lcp_nil_l (b : Bs) : lcp [] b = [] := by cases b <;> rfl
theorem lcp_nil_r (a : Bs) : lcp a [] = [] := by cases a <;> rfl
theorem lcp_hd {a b : Bs} (h : hd a ≠ hd b) : lcp a b = [] := by
  cases a with
  | nil => exact lcp_nil_l b
  | cons x a =>
    cases b with
    | nil => rfl
    | cons y b =>
      unfold lcp com
      rw [if_neg fun e => h (by subst e; rfl)]
      rfl
def F.paths : F α → List Bs
  | .nil => []
  | .cons e _ _ _ k r => (e :: k.paths.map (e ++ ·)) ++ r.paths
theorem F.paths_len : (f : F α) → f.paths.length = f.nodes
  | .nil => rfl
  | .cons e _ _ _ k r => by simp only [F.paths, F.nodes, List.length_append, List.length_cons, List.length_map, F.paths_len k, F.paths_len r]; omega
theorem F.paths_hd : {f : F α} → f.WF → ∀ p ∈ f.paths, p ≠ [] ∧ ∃ n j, f.nth j = some n ∧ hd p = hd n.edge
  | .nil, _, p, h => by simp [F.paths] at h
  | .cons e i v m k r, ⟨h1, h2, h3, h4⟩, p, h => by
      rw [F.paths] at h
      rcases List.mem_append.1 h with h | h
      · rcases List.mem_cons.1 h with e' | h
        · exact ⟨by rw [e']; exact h1, _, 0, rfl, by rw [e']⟩
        · obtain ⟨x, _, rfl⟩ := List.mem_map.1 h
          cases e with
          | nil => exact absurd rfl h1
          | cons y e => exact ⟨by simp, _, 0, rfl, rfl⟩
      · obtain ⟨a, n, j, b, c⟩ := F.paths_hd h4 p h
        exact ⟨a, n, j + 1, b, c⟩
theorem F.paths_nodup : {f : F α} → f.WF → f.paths.Nodup
  | .nil, _ => List.nodup_nil
  | .cons e i v m k r, ⟨h1, h2, h3, h4⟩ => by
      rw [F.paths]
      refine List.nodup_append.2 ⟨List.nodup_cons.2 ⟨fun h => ?_, ?_⟩, F.paths_nodup h4, fun p hp q hq e' => ?_⟩
      · obtain ⟨x, hx, e'⟩ := List.mem_map.1 h
        have := (F.paths_hd h3 x hx).1
        have : x = [] := by simpa using e'
        contradiction
      · exact List.Pairwise.map _ (fun a b hab h => hab (List.append_cancel_left h)) (F.paths_nodup h3)
      · subst e'
        obtain ⟨_, n, j, b, c⟩ := F.paths_hd h4 p hq
        have := h2 n j b
        have hh : hd p = hd e := by
          rcases List.mem_cons.1 hp with e' | h
          · rw [e']
          · obtain ⟨x, _, rfl⟩ := List.mem_map.1 h
            cases e with
            | nil => exact absurd rfl h1
            | cons y e => rfl
        omega
theorem F.paths_of : {f : F α} → f.WF → f.Full → ∀ p ∈ f.paths, ∃ q1 ∈ f.ents, ∃ q2 ∈ f.ents, p = lcp q1.1 q2.1
  | .nil, _, _, p, h => by simp [F.paths] at h
  | .cons e i v m k r, ⟨h1, h2, h3, h4⟩, ⟨f1, f2, f3⟩, p, h => by
      rw [F.paths] at h
      rw [F.ents]
      have up : ∀ q ∈ own i v ++ k.ents, ((e ++ q.1, q.2) : Bs × α) ∈ pre e (own i v ++ k.ents) ++ r.ents := fun q hq => List.mem_append_left _ (List.mem_map.2 ⟨q, hq, rfl⟩)
      rcases List.mem_append.1 h with h | h
      · rcases List.mem_cons.1 h with e' | h
        · subst e'
          rcases f1 with hi | hl
          · have := up ([], v) (List.mem_append_left _ (by rw [hi]; exact List.mem_singleton.2 rfl))
            exact ⟨_, this, _, this, by rw [lcp_self]; simp⟩
          · cases k with
            | nil => simp [F.len] at hl
            | cons e1 i1 v1 m1 k1 r1 =>
              obtain ⟨g1, g2, g3, g4⟩ := h3
              obtain ⟨p1, p2, p3⟩ := f2
              have n1 : (F.cons e1 i1 v1 m1 k1 .nil : F α).ents ≠ [] := fun h0 => by
                have := F.len_ents h0 ⟨p1, p2, trivial⟩; cases this
              rw [F.ents, F.ents, List.append_nil] at n1
              have n2 : r1.ents ≠ [] := fun h0 => by
                have := F.len_ents h0 p3; rw [this] at hl; simp [F.len] at hl
              obtain ⟨q1, hq1⟩ := List.exists_mem_of_ne_nil _ n1
              obtain ⟨q2, hq2⟩ := List.exists_mem_of_ne_nil _ n2
              have a1 := (pre_hd g1 hq1).2
              have a2 := (F.rest_lt g1 g2 g4.ord q2 hq2).2
              have m1' : q1 ∈ own i v ++ (F.cons e1 i1 v1 m1 k1 r1).ents := List.mem_append_right _ (by rw [F.ents]; exact List.mem_append_left _ hq1)
              have m2' : q2 ∈ own i v ++ (F.cons e1 i1 v1 m1 k1 r1).ents := List.mem_append_right _ (by rw [F.ents]; exact List.mem_append_right _ hq2)
              refine ⟨_, up q1 m1', _, up q2 m2', ?_⟩
              dsimp only
              rw [lcp_pre, lcp_hd (by omega), List.append_nil]
        · obtain ⟨x, hx, rfl⟩ := List.mem_map.1 h
          obtain ⟨q1, hq1, q2, hq2, rfl⟩ := F.paths_of h3 f2 x hx
          refine ⟨_, up q1 (List.mem_append_right _ hq1), _, up q2 (List.mem_append_right _ hq2), ?_⟩
          dsimp only
          rw [lcp_pre]
      · obtain ⟨q1, hq1, q2, hq2, e'⟩ := F.paths_of h4 f3 p h
        exact ⟨q1, List.mem_append_right _ hq1, q2, List.mem_append_right _ hq2, e'⟩
theorem F.paths_to : {f : F α} → f.WF → ∀ q1 ∈ f.ents, ∀ q2 ∈ f.ents, lcp q1.1 q2.1 = [] ∨ lcp q1.1 q2.1 ∈ f.paths
  | .nil, _, q1, h, _, _ => by simp [F.ents] at h
  | .cons e i v m k r, ⟨h1, h2, h3, h4⟩, q1, hq1, q2, hq2 => by
      rw [F.ents] at hq1 hq2
      rw [F.paths]
      rcases List.mem_append.1 hq1 with a | a <;> rcases List.mem_append.1 hq2 with b | b
      · obtain ⟨x, hx, rfl⟩ := List.mem_map.1 a
        obtain ⟨y, hy, rfl⟩ := List.mem_map.1 b
        dsimp only
        rw [lcp_pre]
        right
        apply List.mem_append_left
        have key : lcp x.1 y.1 = [] ∨ lcp x.1 y.1 ∈ k.paths := by
          rcases List.mem_append.1 hx with a' | a' <;> rcases List.mem_append.1 hy with b' | b'
          · left; unfold own at a'; split at a'
            · rw [List.mem_singleton.1 a']; exact lcp_nil_l _
            · cases a'
          · left; unfold own at a'; split at a'
            · rw [List.mem_singleton.1 a']; exact lcp_nil_l _
            · cases a'
          · left; unfold own at b'; split at b'
            · rw [List.mem_singleton.1 b']; exact lcp_nil_r _
            · cases b'
          · exact F.paths_to h3 x a' y b'
        rcases key with h | h
        · rw [h, List.append_nil]; exact List.mem_cons_self ..
        · exact List.mem_cons_of_mem _ (List.mem_map.2 ⟨_, h, rfl⟩)
      · left
        have x1 := (pre_hd h1 a).2
        have x2 := (F.rest_lt h1 h2 h4.ord q2 b).2
        exact lcp_hd (by omega)
      · left
        have x1 := (pre_hd h1 b).2
        have x2 := (F.rest_lt h1 h2 h4.ord q1 a).2
        exact lcp_hd (by omega)
      · rcases F.paths_to h4 q1 a q2 b with h | h
        · exact .inl h
        · exact .inr (List.mem_append_right _ h)
/-- How many nodes there are, by what there is. -/
def NodesOf (l : Ents α) (n : Nat) : Prop := ∃ m : List Bs, m.length = n ∧ m.Nodup ∧ ∀ p, p ∈ m ↔ p = [] ∨ ∃ q1 ∈ l, ∃ q2 ∈ l, p = lcp q1.1 q2.1
theorem NodesOf.one {l : Ents α} {n k : Nat} (h1 : NodesOf l n) (h2 : NodesOf l k) : n = k := by
  obtain ⟨m1, rfl, a1, b1⟩ := h1
  obtain ⟨m2, rfl, a2, b2⟩ := h2
  exact (List.perm_ext_iff_of_nodup a1 a2 |>.2 fun p => (b1 p).trans (b2 p).symm).length_eq
theorem nodes_of {x : Nd α} (hk : x.kids.WF) (hf : x.kids.Full) : NodesOf x.ents (x.kids.nodes + 1) := by
  refine ⟨[] :: x.kids.paths, by simp [F.paths_len], List.nodup_cons.2 ⟨fun h => (F.paths_hd hk _ h).1 rfl, F.paths_nodup hk⟩, fun p => ?_⟩
  unfold Nd.ents
  constructor
  · intro h
    rcases List.mem_cons.1 h with e | h
    · exact .inl e
    · obtain ⟨q1, a, q2, b, e⟩ := F.paths_of hk hf p h
      exact .inr ⟨q1, List.mem_append_right _ a, q2, List.mem_append_right _ b, e⟩
  · rintro (e | ⟨q1, a, q2, b, rfl⟩)
    · rw [e]; exact List.mem_cons_self ..
    · have own0 : ∀ q ∈ Go.Proofs.Ytkpfendodmfeoaa.own x.is x.v, q.1 = [] := fun q hq => by
        unfold Go.Proofs.Ytkpfendodmfeoaa.own at hq; split at hq
        · rw [List.mem_singleton.1 hq]
        · cases hq
      rcases List.mem_append.1 a with a | a
      · rw [own0 _ a, lcp_nil_l]; exact List.mem_cons_self ..
      · rcases List.mem_append.1 b with b | b
        · rw [own0 _ b, lcp_nil_r]; exact List.mem_cons_self ..
        · rcases F.paths_to hk q1 a q2 b with h | h
          · rw [h]; exact List.mem_cons_self ..
          · exact List.mem_cons_of_mem _ h
/-- No more than twice as many as keys. -/
theorem F.nodes_le : {f : F α} → f.Full → f.nodes + f.len ≤ 2 * f.ents.length
  | .nil, _ => by simp [F.nodes, F.len]
  | .cons e i v m k r, ⟨f1, f2, f3⟩ => by
      have a := F.nodes_le f2
      have b := F.nodes_le f3
      simp only [F.nodes, F.len, F.ents, List.length_append, pre, List.length_map]
      rcases f1 with hi | hl
      · rw [hi]; simp [own]; omega
      · omega
end Go.Proofs.Ytkpfendodmfeoaa
