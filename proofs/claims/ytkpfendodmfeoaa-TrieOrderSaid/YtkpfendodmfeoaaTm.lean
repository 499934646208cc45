import Derived.Test.YtkpfendodmfeoaaSt
import Derived.Test.YtkpfendodmfeoaaTp5
namespace Go.Proofs.Ytkpfendodmfeoaa
set_option linter.unusedVariables false
set_option linter.unusedSimpArgs false
open Go.RowKit
/-! A trie in memory. -/
abbrev ptr (a : Nat) : Value := .pointer (some ⟨a, 0, none⟩)
def rbl (v : Value) : List Nat := match v.ownBlock with | some g => [g] | none => []
def NdAt (w : World) (a : Nat) (e : Bs) (i : Bool) (v : Value) (m : Nat) (sv : Value) : Prop :=
  w.heap[a]? = some (.cells #[str e, .bool i, v, n64 m, sv] 57 (0, 0))
def Kids (w : World) (sv : Value) (n : Nat) (qs : List Nat) : Prop := Row w 0 54 1 sv n (qs.map ptr)
variable {α : Type} (enc : α → Value)
def RepF (w : World) : F α → List Nat → List Nat → Prop
  | .nil, ps, fp => ps = [] ∧ fp = []
  | .cons e i v m k r, ps, fp => ∃ a ps' sv qs fk fr, ps = a :: ps' ∧ NdAt w a e i (enc v) m sv ∧ Kids w sv k.len qs ∧ RepF w k qs fk ∧ RepF w r ps' fr ∧ fp.Perm (a :: (rbl sv ++ fk) ++ fr)
def RepN (w : World) (x : Nd α) (a : Nat) (fp : List Nat) : Prop :=
  ∃ sv qs fk, NdAt w a x.edge x.is (enc x.v) x.many sv ∧ Kids w sv x.kids.len qs ∧ RepF enc w x.kids qs fk ∧ fp.Perm (a :: (rbl sv ++ fk))
variable {enc}
theorem repF_cons {w : World} {e : Bs} {i : Bool} {v : α} {m : Nat} {k r : F α} {ps fp : List Nat} :
    RepF enc w (.cons e i v m k r) ps fp ↔ ∃ a ps' fa fr, ps = a :: ps' ∧ RepN enc w ⟨e, i, v, m, k⟩ a fa ∧ RepF enc w r ps' fr ∧ fp.Perm (fa ++ fr) := by
  constructor
  · rintro ⟨a, ps', sv, qs, fk, fr, h1, h2, h3, h4, h5, h6⟩
    exact ⟨a, ps', _, fr, h1, ⟨sv, qs, fk, h2, h3, h4, List.Perm.refl _⟩, h5, h6⟩
  · rintro ⟨a, ps', fa, fr, h1, ⟨sv, qs, fk, h2, h3, h4, h7⟩, h5, h6⟩
    exact ⟨a, ps', sv, qs, fk, fr, h1, h2, h3, h4, h5, h6.trans (h7.append_right _)⟩
theorem RepN.perm {w : World} {x : Nd α} {a : Nat} {fp fq : List Nat} (h : RepN enc w x a fp) (hp : fq.Perm fp) : RepN enc w x a fq := by
  obtain ⟨sv, qs, fk, h1, h2, h3, h4⟩ := h
  exact ⟨sv, qs, fk, h1, h2, h3, hp.trans h4⟩
theorem RepF.perm {w : World} {f : F α} {ps fp fq : List Nat} (h : RepF enc w f ps fp) (hp : fq.Perm fp) : RepF enc w f ps fq := by
  cases f with
  | nil => obtain ⟨h1, rfl⟩ := h; exact ⟨h1, List.perm_nil.1 hp⟩
  | cons e i v m k r =>
    obtain ⟨a, ps', sv, qs, fk, fr, h1, h2, h3, h4, h5, h6⟩ := h
    exact ⟨a, ps', sv, qs, fk, fr, h1, h2, h3, h4, h5, hp.trans h6⟩
theorem RepF.len {w : World} : {f : F α} → {ps fp : List Nat} → RepF enc w f ps fp → ps.length = f.len
  | .nil, _, _, h => by rw [h.1]; rfl
  | .cons _ _ _ _ _ _, _, _, h => by
      obtain ⟨a, ps', sv, qs, fk, fr, rfl, _, _, _, h5, _⟩ := h
      rw [List.length_cons, RepF.len h5]; rfl
theorem rbl_mem {v : Value} {g : Nat} (h : v.ownBlock = some g) : g ∈ rbl v := by unfold rbl; rw [h]; exact List.mem_singleton.2 rfl
theorem rbl_of {v : Value} {g : Nat} (h : g ∈ rbl v) : v.ownBlock = some g := by
  unfold rbl at h
  cases hv : v.ownBlock with
  | none => rw [hv] at h; cases h
  | some k => rw [hv] at h; rw [List.mem_singleton.1 h]
/-- As long as its blocks are as they were. -/
theorem RepF.move {w w' : World} : {f : F α} → {ps fp : List Nat} → RepF enc w f ps fp → (∀ b ∈ fp, w'.heap[b]? = w.heap[b]?) → RepF enc w' f ps fp
  | .nil, _, _, h, _ => h
  | .cons _ _ _ _ _ _, _, _, h, hm => by
      obtain ⟨a, ps', sv, qs, fk, fr, h1, h2, h3, h4, h5, h6⟩ := h
      have hin : ∀ b, b ∈ a :: (rbl sv ++ fk) ++ fr → w'.heap[b]? = w.heap[b]? := fun b hb => hm b (h6.mem_iff.2 hb)
      refine ⟨a, ps', sv, qs, fk, fr, h1, (hin a (by simp)).trans h2, Row.at_ h3 fun k hk => hin k (by have := rbl_mem hk; simp [this]), RepF.move h4 fun b hb => hin b (by simp [hb]), RepF.move h5 fun b hb => hin b (by simp [hb]), h6⟩
theorem RepN.move {w w' : World} {x : Nd α} {a : Nat} {fp : List Nat} (h : RepN enc w x a fp) (hm : ∀ b ∈ fp, w'.heap[b]? = w.heap[b]?) : RepN enc w' x a fp := by
  obtain ⟨sv, qs, fk, h1, h2, h3, h4⟩ := h
  have hin : ∀ b, b ∈ a :: (rbl sv ++ fk) → w'.heap[b]? = w.heap[b]? := fun b hb => hm b (h4.mem_iff.2 hb)
  exact ⟨sv, qs, fk, (hin a (by simp)).trans h1, Row.at_ h2 fun k hk => hin k (by have := rbl_mem hk; simp [this]), h3.move fun b hb => hin b (by simp [hb]), h4⟩
theorem RepF.fr {w w' : World} {S : Nat → Prop} {f : F α} {ps fp : List Nat} (h : RepF enc w f ps fp) (hf : Fr S w w') (hlt : ∀ b ∈ fp, b < w.heap.size) (hs : ∀ b ∈ fp, ¬ S b) : RepF enc w' f ps fp :=
  h.move fun b hb => hf.block b (hlt b hb) (hs b hb)
theorem RepF.lt {w : World} : {f : F α} → {ps fp : List Nat} → RepF enc w f ps fp → ∀ b ∈ fp, b < w.heap.size
  | .nil, _, _, h, b, hb => by rw [h.2] at hb; cases hb
  | .cons _ _ _ _ _ _, _, _, h, b, hb => by
      obtain ⟨a, ps', sv, qs, fk, fr, h1, h2, h3, h4, h5, h6⟩ := h
      have := h6.mem_iff.1 hb
      simp only [List.cons_append, List.append_assoc, List.mem_cons, List.mem_append] at this
      rcases this with e | e | e | e
      · rw [e]; exact lt_of_heap h2
      · exact (Row.lt h3 b (rbl_of e)).2
      · exact RepF.lt h4 b e
      · exact RepF.lt h5 b e
theorem RepN.lt {w : World} {x : Nd α} {a : Nat} {fp : List Nat} (h : RepN enc w x a fp) : ∀ b ∈ fp, b < w.heap.size := by
  obtain ⟨sv, qs, fk, h1, h2, h3, h4⟩ := h
  intro b hb
  have := h4.mem_iff.1 hb
  simp only [List.mem_cons, List.mem_append] at this
  rcases this with e | e | e
  · rw [e]; exact lt_of_heap h1
  · exact (Row.lt h2 b (rbl_of e)).2
  · exact h3.lt b e
theorem RepN.mem {w : World} {x : Nd α} {a : Nat} {fp : List Nat} (h : RepN enc w x a fp) : a ∈ fp := by
  obtain ⟨sv, qs, fk, h1, h2, h3, h4⟩ := h
  exact h4.mem_iff.2 (List.mem_cons_self ..)
/-! Rows of nodes: one of them, in another's place. -/
def F.set : F α → Nat → Nd α → F α
  | .nil, _, _ => .nil
  | .cons _ _ _ _ _ r, 0, x => .cons x.edge x.is x.v x.many x.kids r
  | .cons e i v m k r, j + 1, x => .cons e i v m k (r.set j x)
def F.ins : F α → Nat → Nd α → F α
  | f, 0, x => .cons x.edge x.is x.v x.many x.kids f
  | .nil, _ + 1, x => .cons x.edge x.is x.v x.many x.kids .nil
  | .cons e i v m k r, j + 1, x => .cons e i v m k (r.ins j x)
def F.del : F α → Nat → F α
  | .nil, _ => .nil
  | .cons _ _ _ _ _ r, 0 => r
  | .cons e i v m k r, j + 1 => .cons e i v m k (r.del j)
theorem F.set_len : (f : F α) → (j : Nat) → (x : Nd α) → (f.set j x).len = f.len
  | .nil, _, _ => rfl
  | .cons _ _ _ _ _ _, 0, _ => rfl
  | .cons _ _ _ _ _ r, j + 1, x => by simp [F.set, F.len, F.set_len r j x]
theorem F.ins_len : (f : F α) → (j : Nat) → (x : Nd α) → (f.ins j x).len = f.len + 1
  | .nil, 0, _ => rfl
  | .nil, _ + 1, _ => rfl
  | .cons _ _ _ _ _ _, 0, _ => rfl
  | .cons _ _ _ _ _ r, j + 1, x => by simp [F.ins, F.len, F.ins_len r j x]
theorem F.del_len : (f : F α) → (j : Nat) → j < f.len → (f.del j).len + 1 = f.len
  | .nil, _, h => by simp [F.len] at h
  | .cons _ _ _ _ _ _, 0, _ => rfl
  | .cons _ _ _ _ _ r, j + 1, h => by simp [F.del, F.len] at h ⊢; exact F.del_len r j h
/-- A row, parted at one of its nodes. -/
theorem RepF.nth {w : World} : {f : F α} → {ps fp : List Nat} → {j : Nat} → {x : Nd α} → RepF enc w f ps fp → f.nth j = some x →
    ∃ a fa fo, ps[j]? = some a ∧ RepN enc w x a fa ∧ fp.Perm (fa ++ fo) ∧
      (∀ (w' : World) (x' : Nd α) (a' : Nat) (fa' : List Nat), (∀ b ∈ fo, w'.heap[b]? = w.heap[b]?) → RepN enc w' x' a' fa' → RepF enc w' (f.set j x') (ps.set j a') (fa' ++ fo)) ∧
      (∀ (w' : World), (∀ b ∈ fo, w'.heap[b]? = w.heap[b]?) → RepF enc w' (f.del j) (ps.eraseIdx j) fo)
  | .nil, _, _, _, _, _, h => by simp [F.nth] at h
  | .cons e i v m k r, ps, fp, 0, x, h, hx => by
      obtain ⟨a, ps', fa, fr, rfl, h2, h3, h4⟩ := repF_cons.1 h
      simp only [F.nth] at hx
      cases hx
      refine ⟨a, fa, fr, rfl, h2, h4, fun w' x' a' fa' hm hr => ?_, fun w' hm => ?_⟩
      · exact repF_cons.2 ⟨a', ps', fa', fr, rfl, hr, h3.move hm, List.Perm.refl _⟩
      · exact h3.move hm
  | .cons e i v m k r, ps, fp, j + 1, x, h, hx => by
      obtain ⟨a, ps', fa, fr, rfl, h2, h3, h4⟩ := repF_cons.1 h
      obtain ⟨b, fb, fo, k1, k2, k3, k4, k5⟩ := RepF.nth h3 (j := j) (x := x) hx
      refine ⟨b, fb, fa ++ fo, by simpa using k1, k2, ?_, fun w' x' a' fa' hm hr => ?_, fun w' hm => ?_⟩
      · refine h4.trans ((k3.append_left _).trans ?_)
        rw [← List.append_assoc, ← List.append_assoc]
        exact (List.perm_append_comm).append_right _
      · refine repF_cons.2 ⟨a, ps'.set j a', fa, fa' ++ fo, rfl, h2.move fun c hc => hm c (by simp [hc]), k4 w' x' a' fa' (fun c hc => hm c (by simp [hc])) hr, ?_⟩
        rw [← List.append_assoc, ← List.append_assoc]
        exact (List.perm_append_comm).append_right _
      · exact repF_cons.2 ⟨a, ps'.eraseIdx j, fa, fo, rfl, h2.move fun c hc => hm c (by simp [hc]), k5 w' (fun c hc => hm c (by simp [hc])), List.Perm.refl _⟩
theorem RepF.ins {w : World} {x : Nd α} {b : Nat} {fb : List Nat} (hx : RepN enc w x b fb) : {f : F α} → {ps fp : List Nat} → {j : Nat} → j ≤ f.len → RepF enc w f ps fp → RepF enc w (f.ins j x) (ps.insertIdx j b) (fb ++ fp)
  | .nil, ps, fp, 0, _, h => by
      obtain ⟨rfl, rfl⟩ := h
      exact repF_cons.2 ⟨b, [], fb, [], rfl, hx, ⟨rfl, rfl⟩, List.Perm.refl _⟩
  | .nil, _, _, j + 1, hj, _ => by simp [F.len] at hj
  | .cons e i v m k r, ps, fp, 0, _, h => repF_cons.2 ⟨b, ps, fb, fp, by simp, hx, h, List.Perm.refl _⟩
  | .cons e i v m k r, ps, fp, j + 1, hj, h => by
      obtain ⟨a, ps', fa, fr, rfl, h2, h3, h4⟩ := repF_cons.1 h
      have := RepF.ins hx (j := j) (by simp [F.len] at hj; exact hj) h3
      refine repF_cons.2 ⟨a, _, fa, fb ++ fr, by simp [List.insertIdx_succ_cons], h2, this, ?_⟩
      refine (h4.append_left _).trans ?_
      rw [← List.append_assoc, ← List.append_assoc]
      exact (List.perm_append_comm).append_right _
end Go.Proofs.Ytkpfendodmfeoaa
