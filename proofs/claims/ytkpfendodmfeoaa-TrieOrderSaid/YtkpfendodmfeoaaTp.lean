import Derived.Test.YtkpfendodmfeoaaPu
namespace Go.Proofs.Ytkpfendodmfeoaa
set_option linter.unusedVariables false
set_option linter.unusedSimpArgs false
/-! Tries, in plain Lean: a row of nodes as first child and next sibling. -/
inductive F (α : Type) where
  | nil
  | cons (edge : Bs) (is : Bool) (v : α) (many : Nat) (kids : F α) (rest : F α)
/-- A node. -/
structure Nd (α : Type) where
  edge : Bs
  is : Bool
  v : α
  many : Nat
  kids : F α
variable {α : Type}
def F.len : F α → Nat
  | .nil => 0
  | .cons _ _ _ _ _ r => r.len + 1
def F.nth : F α → Nat → Option (Nd α)
  | .nil, _ => none
  | .cons e i v m k _, 0 => some ⟨e, i, v, m, k⟩
  | .cons _ _ _ _ _ r, n + 1 => r.nth n
def Nd.cons (n : Nd α) (r : F α) : F α := .cons n.edge n.is n.v n.many n.kids r
/-- A byte's place. -/
def hd (s : Bs) : Nat := at' s 0
def F.idx : F α → Nat → Nat
  | .nil, _ => 0
  | .cons e _ _ _ _ r, c => if hd e < c then r.idx c + 1 else 0
def F.has : F α → Nat → Bool
  | .nil, _ => false
  | .cons e _ _ _ _ r, c => if hd e < c then r.has c else decide (hd e = c)
/-- Edges have bytes; their first bytes rise. -/
def F.Ord : F α → Prop
  | .nil => True
  | .cons e _ _ _ _ r => e ≠ [] ∧ (∀ n k, r.nth k = some n → hd e < hd n.edge) ∧ r.Ord
/-- So do those below. -/
def F.WF : F α → Prop
  | .nil => True
  | .cons e _ _ _ k r => e ≠ [] ∧ (∀ n j, r.nth j = some n → hd e < hd n.edge) ∧ k.WF ∧ r.WF
theorem F.WF.ord : {f : F α} → f.WF → f.Ord
  | .nil, _ => trivial
  | .cons _ _ _ _ _ _, ⟨h1, h2, _, h4⟩ => ⟨h1, h2, h4.ord⟩
theorem F.nth_lt : {f : F α} → {k : Nat} → {n : Nd α} → f.nth k = some n → k < f.len
  | .nil, _, _, h => by simp [F.nth] at h
  | .cons _ _ _ _ _ _, 0, _, _ => by simp [F.len]
  | .cons _ _ _ _ _ r, k + 1, n, h => by
      have := F.nth_lt (f := r) (k := k) (n := n) h
      simp [F.len]; omega
theorem F.nth_some : {f : F α} → {k : Nat} → k < f.len → ∃ n, f.nth k = some n
  | .nil, _, h => by simp [F.len] at h
  | .cons _ _ _ _ _ _, 0, _ => ⟨_, rfl⟩
  | .cons _ _ _ _ _ r, k + 1, h => F.nth_some (f := r) (by simp [F.len] at h; exact h)
theorem F.nth_ne : {f : F α} → {k : Nat} → {n : Nd α} → f.Ord → f.nth k = some n → n.edge ≠ []
  | .nil, _, _, _, h => by simp [F.nth] at h
  | .cons _ _ _ _ _ _, 0, _, ho, h => by simp only [F.nth] at h; cases h; exact ho.1
  | .cons _ _ _ _ _ r, k + 1, _, ho, h => F.nth_ne (f := r) (k := k) ho.2.2 h
theorem F.idx_le : (f : F α) → (c : Nat) → f.idx c ≤ f.len
  | .nil, _ => Nat.le_refl _
  | .cons e _ _ _ _ r, c => by
      have := F.idx_le r c
      unfold F.idx F.len; split <;> omega
/-- Ahead of a byte's place edges begin with less; from it on with no less. -/
theorem F.idx_lt : {f : F α} → {c k : Nat} → {n : Nd α} → f.Ord → f.nth k = some n → (k < f.idx c ↔ hd n.edge < c)
  | .nil, _, _, _, _, h => by simp [F.nth] at h
  | .cons e i v m kd r, c, 0, n, ho, h => by
      simp only [F.nth] at h
      cases h
      unfold F.idx
      split <;> simp_all
  | .cons e i v m kd r, c, k + 1, n, ho, h => by
      have ih := F.idx_lt (f := r) (c := c) (k := k) (n := n) ho.2.2 h
      have h2 := ho.2.1 n k h
      unfold F.idx
      split
      · simp only [Nat.add_lt_add_iff_right]; exact ih
      · simp; omega
theorem F.has_iff : {f : F α} → {c : Nat} → (f.has c = true ↔ ∃ n, f.nth (f.idx c) = some n ∧ hd n.edge = c)
  | .nil, c => by simp [F.has, F.nth]
  | .cons e i v m kd r, c => by
      unfold F.has F.idx
      split
      · simp only [F.nth]; exact F.has_iff (f := r)
      · simp [F.nth]
theorem F.has_of : {f : F α} → {c j : Nat} → {n : Nd α} → f.Ord → f.nth j = some n → hd n.edge = c → f.has c = true
  | .nil, _, _, _, _, h, _ => by simp [F.nth] at h
  | .cons e i v m kd r, c, 0, n, _, h, hc => by
      simp only [F.nth] at h
      cases h
      unfold F.has
      rw [if_neg (by dsimp only at hc; omega)]
      exact decide_eq_true hc
  | .cons e i v m kd r, c, j + 1, n, ⟨h1, h2, h3⟩, h, hc => by
      have := h2 n j h
      unfold F.has
      rw [if_pos (by omega)]
      exact F.has_of (f := r) h3 h hc
/-- How many bytes two texts begin with alike. -/
def com : Bs → Bs → Nat
  | x :: a, y :: b => if x = y then com a b + 1 else 0
  | _, _ => 0
theorem com_le : (a b : Bs) → com a b ≤ a.length ∧ com a b ≤ b.length
  | [], b => by cases b <;> simp [com]
  | x :: a, [] => by simp [com]
  | x :: a, y :: b => by
      have := com_le a b
      unfold com; split <;> simp_all
theorem com_take : (a b : Bs) → a.take (com a b) = b.take (com a b)
  | [], b => by cases b <;> simp [com]
  | x :: a, [] => by simp [com]
  | x :: a, y :: b => by
      have := com_take a b
      unfold com; split
      · rename_i h; rw [h, List.take_succ_cons, List.take_succ_cons, this]
      · rfl
theorem com_ne : (a b : Bs) → com a b < a.length → com a b < b.length → a[com a b]? ≠ b[com a b]?
  | [], b, h, _ => by simp at h
  | x :: a, [], _, h => by simp at h
  | x :: a, y :: b, h1, h2 => by
      have ih := com_ne a b
      unfold com at h1 h2 ⊢
      split
      · rename_i h
        rw [if_pos h] at h1 h2
        simp only [List.length_cons] at h1 h2
        rw [List.getElem?_cons_succ, List.getElem?_cons_succ]
        exact ih (by omega) (by omega)
      · rename_i h; simpa using h
theorem hd_cons (x : UInt8) (a : Bs) : hd (x :: a) = x.toNat := rfl
theorem com_pos {a b : Bs} (ha : a ≠ []) (hb : b ≠ []) (h : hd a = hd b) : 0 < com a b := by
  cases a with
  | nil => exact absurd rfl ha
  | cons x a =>
    cases b with
    | nil => exact absurd rfl hb
    | cons y b =>
      rw [hd_cons, hd_cons] at h
      have : x = y := UInt8.toNat_inj.1 h
      subst this
      simp [com]
/-! The calls. 'z': the zero value; 'had': was it a key? -/
/-- What stands for s in a row, put: s has bytes. -/
def putF (z : α) (had : Bool) (f : F α) (s : Bs) (v : α) : F α :=
  match f with
  | .nil => .cons s true v 1 .nil .nil
  | .cons e i w m k r =>
    if hd e < hd s then .cons e i w m k (putF z had r s v)
    else if hd e ≠ hd s then .cons s true v 1 .nil (.cons e i w m k r)
    else if h : 0 < com e s then
      if com e s < e.length then
        if s.drop (com e s) = [] then .cons (e.take (com e s)) true v (m + 1) (.cons (e.drop (com e s)) i w m k .nil) r
        else .cons (e.take (com e s)) false z (m + 1) (putF z had (.cons (e.drop (com e s)) i w m k .nil) (s.drop (com e s)) v) r
      else if s.drop (com e s) = [] then .cons e true v (if had then m else m + 1) k r
      else .cons e i w (if had then m else m + 1) (putF z had k (s.drop (com e s)) v) r
    else f
termination_by (s.length, SizeOf.sizeOf f)
decreasing_by
  · simp_wf; right; omega
  · simp_wf; left; have := (com_le e s).2; omega
  · simp_wf; left; have := (com_le e s).2; omega
def putN (z : α) (had : Bool) (x : Nd α) (s : Bs) (v : α) : Nd α :=
  if s = [] then { x with is := true, v := v, many := if had then x.many else x.many + 1 }
  else { x with many := (if had then x.many else x.many + 1), kids := putF z had x.kids s v }
end Go.Proofs.Ytkpfendodmfeoaa
