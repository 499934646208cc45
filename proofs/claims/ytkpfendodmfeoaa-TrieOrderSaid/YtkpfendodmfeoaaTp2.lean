import Derived.Test.YtkpfendodmfeoaaTp
namespace Go.Proofs.Ytkpfendodmfeoaa
set_option linter.unusedVariables false
set_option linter.unusedSimpArgs false
variable {α : Type}
/-! A trie's entries, and a row of keys, rising. -/
def ltB : Bs → Bs → Bool
  | [], [] => false
  | [], _ :: _ => true
  | _ :: _, [] => false
  | x :: a, y :: b => if x.toNat < y.toNat then true else if x = y then ltB a b else false
theorem ltB_irr : (a : Bs) → ltB a a = false
  | [] => rfl
  | x :: a => by simp [ltB, ltB_irr a]
theorem ltB_tr : (a b c : Bs) → ltB a b = true → ltB b c = true → ltB a c = true
  | [], [], _, h, _ => by simp [ltB] at h
  | [], _ :: _, [], _, h => by simp [ltB] at h
  | [], _ :: _, _ :: _, _, _ => rfl
  | _ :: _, [], _, h, _ => by simp [ltB] at h
  | _ :: _, _ :: _, [], _, h => by simp [ltB] at h
  | x :: a, y :: b, z :: c, h, k => by
      unfold ltB at h k ⊢
      by_cases h1 : x.toNat < y.toNat
      · by_cases k1 : y.toNat < z.toNat
        · rw [if_pos (by omega)]
        · rw [if_neg k1] at k
          by_cases k2 : y = z
          · subst k2; rw [if_pos h1]
          · rw [if_neg k2] at k; cases k
      · rw [if_neg h1] at h
        by_cases h2 : x = y
        · subst h2
          rw [if_pos rfl] at h
          by_cases k1 : x.toNat < z.toNat
          · rw [if_pos k1]
          · rw [if_neg k1] at k ⊢
            by_cases k2 : x = z
            · rw [if_pos k2] at k ⊢; exact ltB_tr a b c h k
            · rw [if_neg k2] at k; cases k
        · rw [if_neg h2] at h; cases h
theorem ltB_tri : (a b : Bs) → ltB a b = true ∨ a = b ∨ ltB b a = true
  | [], [] => .inr (.inl rfl)
  | [], _ :: _ => .inl rfl
  | _ :: _, [] => .inr (.inr rfl)
  | x :: a, y :: b => by
      unfold ltB
      by_cases h1 : x.toNat < y.toNat
      · exact .inl (by rw [if_pos h1])
      · by_cases h2 : x = y
        · subst h2
          rw [if_neg h1, if_pos rfl, if_pos rfl]
          rcases ltB_tri a b with h | h | h
          · exact .inl h
          · exact .inr (.inl (by rw [h]))
          · exact .inr (.inr (by rw [h]; simp))
        · have : y.toNat < x.toNat := by
            have : x.toNat ≠ y.toNat := fun e => h2 (UInt8.toNat_inj.1 e)
            omega
          exact .inr (.inr (by rw [if_pos this]))
theorem ltB_asym {a b : Bs} (h : ltB a b = true) : ltB b a = false := by
  cases hb : ltB b a with
  | false => rfl
  | true => have := ltB_tr a b a h hb; rw [ltB_irr] at this; cases this
theorem ltB_pre (p a b : Bs) : ltB (p ++ a) (p ++ b) = ltB a b := by
  induction p with
  | nil => rfl
  | cons x p ih => simp [ltB, ih]
theorem ltB_hd {a b : Bs} (ha : a ≠ []) (hb : b ≠ []) (h : hd a < hd b) : ltB a b = true := by
  cases a with
  | nil => exact absurd rfl ha
  | cons x a =>
    cases b with
    | nil => exact absurd rfl hb
    | cons y b => unfold ltB; rw [if_pos (by rwa [hd_cons, hd_cons] at h)]
/-! Rows of keys. -/
abbrev Ents (α : Type) := List (Bs × α)
def lput : Ents α → Bs → α → Ents α
  | [], k, v => [(k, v)]
  | (x, u) :: t, k, v => if ltB x k then (x, u) :: lput t k v else if x = k then (k, v) :: t else (k, v) :: (x, u) :: t
def lget : Ents α → Bs → Option α
  | [], _ => none
  | (x, u) :: t, k => if x = k then some u else lget t k
def ldrop (l : Ents α) (k : Bs) : Ents α := l.filter fun p => decide (p.1 ≠ k)
def Rise (l : Ents α) : Prop := l.Pairwise fun p q => ltB p.1 q.1 = true
/-- Each with p ahead of it. -/
def pre (p : Bs) (l : Ents α) : Ents α := l.map fun q => (p ++ q.1, q.2)
theorem pre_nil (l : Ents α) : pre [] l = l := by simp [pre]
theorem pre_pre (p q : Bs) (l : Ents α) : pre p (pre q l) = pre (p ++ q) l := by simp [pre, List.append_assoc]
theorem pre_append (p : Bs) (l m : Ents α) : pre p (l ++ m) = pre p l ++ pre p m := by simp [pre]
theorem lput_pre (p : Bs) (l : Ents α) (k : Bs) (v : α) : lput (pre p l) (p ++ k) v = pre p (lput l k v) := by
  induction l with
  | nil => simp [pre, lput]
  | cons q l ih =>
    obtain ⟨x, u⟩ := q
    have e : pre p ((x, u) :: l) = (p ++ x, u) :: pre p l := rfl
    rw [e, lput, lput, ltB_pre]
    split
    · rw [ih]; rfl
    · simp only [List.append_cancel_left_eq]
      split <;> rfl
theorem lput_right (l m : Ents α) (k : Bs) (v : α) (h : ∀ q ∈ l, ltB q.1 k = true) : lput (l ++ m) k v = l ++ lput m k v := by
  induction l with
  | nil => rfl
  | cons q l ih =>
    obtain ⟨x, u⟩ := q
    rw [List.cons_append, lput, if_pos (h (x, u) (List.mem_cons_self ..)), ih fun q hq => h q (List.mem_cons_of_mem _ hq)]; rfl
theorem lput_left (l m : Ents α) (k : Bs) (v : α) (h : ∀ q ∈ m, ltB k q.1 = true) : lput (l ++ m) k v = lput l k v ++ m := by
  induction l with
  | nil =>
    cases m with
    | nil => rfl
    | cons q m =>
      obtain ⟨x, u⟩ := q
      have h1 := h (x, u) (List.mem_cons_self ..)
      show lput ((x, u) :: m) k v = (k, v) :: (x, u) :: m
      have h2 : ltB x k = false := ltB_asym h1
      have h3 : ¬ x = k := fun e => by rw [e] at h1; rw [ltB_irr] at h1; cases h1
      rw [lput, h2, if_neg (by simp), if_neg h3]
  | cons q l ih =>
    obtain ⟨x, u⟩ := q
    rw [List.cons_append, lput, lput, ih]
    split
    · rfl
    · split <;> rfl
theorem lget_pre (p : Bs) (l : Ents α) (k : Bs) : lget (pre p l) (p ++ k) = lget l k := by
  induction l with
  | nil => rfl
  | cons q l ih =>
    obtain ⟨x, u⟩ := q
    show lget ((p ++ x, u) :: pre p l) (p ++ k) = _
    rw [lget, lget, ih]
    simp only [List.append_cancel_left_eq]
theorem lget_append (l m : Ents α) (k : Bs) : lget (l ++ m) k = (lget l k).or (lget m k) := by
  induction l with
  | nil => simp [lget]
  | cons q l ih =>
    obtain ⟨x, u⟩ := q
    rw [List.cons_append, lget, lget]
    split
    · rfl
    · exact ih
theorem lget_none {l : Ents α} {k : Bs} (h : ∀ q ∈ l, q.1 ≠ k) : lget l k = none := by
  induction l with
  | nil => rfl
  | cons q l ih =>
    obtain ⟨x, u⟩ := q
    rw [lget, if_neg (h (x, u) (List.mem_cons_self ..)), ih fun q hq => h q (List.mem_cons_of_mem _ hq)]
theorem lget_mem {l : Ents α} {k : Bs} {v : α} (h : lget l k = some v) : (k, v) ∈ l := by
  induction l with
  | nil => cases h
  | cons q l ih =>
    obtain ⟨x, u⟩ := q
    rw [lget] at h
    split at h
    · rename_i e; cases h; subst e; exact List.mem_cons_self ..
    · exact List.mem_cons_of_mem _ (ih h)
theorem ldrop_append (l m : Ents α) (k : Bs) : ldrop (l ++ m) k = ldrop l k ++ ldrop m k := by simp [ldrop]
theorem ldrop_pre (p : Bs) (l : Ents α) (k : Bs) : ldrop (pre p l) (p ++ k) = pre p (ldrop l k) := by
  unfold ldrop pre
  rw [List.filter_map]
  congr 1
  apply List.filter_congr
  intro q _
  simp
theorem ldrop_none {l : Ents α} {k : Bs} (h : ∀ q ∈ l, q.1 ≠ k) : ldrop l k = l := List.filter_eq_self.2 fun q hq => by simpa using h q hq
/-! A trie's. -/
/-- What a node's own is. -/
def own (i : Bool) (v : α) : Ents α := if i then [([], v)] else []
def F.ents : F α → Ents α
  | .nil => []
  | .cons e i v _ k r => pre e (own i v ++ k.ents) ++ r.ents
def Nd.ents (x : Nd α) : Ents α := own x.is x.v ++ x.kids.ents
def F.nodes : F α → Nat
  | .nil => 0
  | .cons _ _ _ _ k r => k.nodes + r.nodes + 1
/-- How many keys each node says are its. -/
def F.Many : F α → Prop
  | .nil => True
  | .cons _ i v m k r => m = (own i v ++ k.ents).length ∧ k.Many ∧ r.Many
/-- Each node is a key, or has two below. -/
def F.Full : F α → Prop
  | .nil => True
  | .cons _ i _ _ k r => (i = true ∨ 2 ≤ k.len) ∧ k.Full ∧ r.Full
/-- What is no key has no value. -/
def F.Zero (z : α) : F α → Prop
  | .nil => True
  | .cons _ i v _ k r => (i = false → v = z) ∧ k.Zero z ∧ r.Zero z
theorem pre_hd {e : Bs} (he : e ≠ []) {l : Ents α} {q : Bs × α} (hq : q ∈ pre e l) : q.1 ≠ [] ∧ hd q.1 = hd e := by
  obtain ⟨x, _, rfl⟩ := List.mem_map.1 hq
  cases e with
  | nil => exact absurd rfl he
  | cons y e => exact ⟨by simp, rfl⟩
/-- Each entry begins with a node's edge. -/
theorem F.ents_hd : {f : F α} → f.Ord → ∀ q ∈ f.ents, q.1 ≠ [] ∧ ∃ n k, f.nth k = some n ∧ hd q.1 = hd n.edge
  | .nil, _, q, hq => by simp [F.ents] at hq
  | .cons e i v m k r, ⟨h1, h2, h3⟩, q, hq => by
      rw [F.ents] at hq
      rcases List.mem_append.1 hq with h | h
      · obtain ⟨a, b⟩ := pre_hd h1 h
        exact ⟨a, _, 0, rfl, b⟩
      · obtain ⟨a, n, j, b, c⟩ := F.ents_hd h3 q h
        exact ⟨a, n, j + 1, b, c⟩
theorem F.rest_lt {e : Bs} {r : F α} (_he : e ≠ []) (h2 : ∀ n k, r.nth k = some n → hd e < hd n.edge) (h3 : r.Ord) : ∀ q ∈ r.ents, q.1 ≠ [] ∧ hd e < hd q.1 := fun q hq => by
  obtain ⟨a, n, j, b, c⟩ := F.ents_hd h3 q hq
  exact ⟨a, by have := h2 n j b; omega⟩
theorem putF_nth (z : α) (had : Bool) (f : F α) (s : Bs) (v : α) (hs : s ≠ []) (j : Nat) (n : Nd α) (h : (putF z had f s v).nth j = some n) : hd n.edge = hd s ∨ ∃ m i, f.nth i = some m ∧ hd n.edge = hd m.edge := by
  induction f generalizing j with
  | nil =>
    rw [putF] at h
    cases j with
    | zero => simp only [F.nth] at h; cases h; exact .inl rfl
    | succ j => simp [F.nth] at h
  | cons e i w m k r _ ih2 =>
    rw [putF] at h
    have old : ∀ j, (F.cons e i w m k r).nth j = some n → hd n.edge = hd s ∨ ∃ m' i', (F.cons e i w m k r).nth i' = some m' ∧ hd n.edge = hd m'.edge := fun j h => .inr ⟨n, j, h, rfl⟩
    split at h
    · cases j with
      | zero => exact .inr ⟨_, 0, rfl, by simp only [F.nth] at h; cases h; rfl⟩
      | succ j =>
        rcases ih2 j h with e1 | ⟨m', i', e1, e2⟩
        · exact .inl e1
        · exact .inr ⟨m', i' + 1, e1, e2⟩
    · split at h
      · cases j with
        | zero => simp only [F.nth] at h; cases h; exact .inl rfl
        | succ j => exact old j h
      · rename_i hne
        have hes : hd e = hd s := Classical.byContradiction hne
        split at h
        · rename_i hc
          have ht : ∀ t : Bs, hd (e.take (com e s)) = hd e := fun _ => by
            cases e with
            | nil => simp [com] at hc
            | cons y e =>
              cases hc2 : com (y :: e) s with
              | zero => omega
              | succ c => rfl
          split at h
          · split at h <;> (cases j with
              | zero => (simp only [F.nth] at h; cases h; exact .inl (by rw [ht s, hes]))
              | succ j => exact old (j + 1) h)
          · split at h <;> (cases j with
              | zero => (simp only [F.nth] at h; cases h; exact .inl hes)
              | succ j => exact old (j + 1) h)
        · exact old j h
end Go.Proofs.Ytkpfendodmfeoaa
