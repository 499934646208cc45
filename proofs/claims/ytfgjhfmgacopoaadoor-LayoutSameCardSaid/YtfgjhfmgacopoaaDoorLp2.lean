import Derived.Test.YtfgjhfmgacopoaaDoorLp1
import Derived.Test.YtfgjhfmgacopoaaDoorLo11
namespace Go.Proofs.YtfgjhfmgacopoaaDoor
set_option linter.unusedVariables false
set_option linter.unusedSimpArgs false
/-! Chapter 18 in plain Lean: LayoutCells, LayoutGhost. -/
theorem okR_split : (a : RowT) → (h : Bool) → (b : RowT) → okR h (a ++ b) = true → okR h a = true → okR false b = true
  | [], h, b, h1, h2 => by
    unfold okR at h2
    cases h
    · exact h1
    · cases h2
  | c :: a, h, b, h1, h2 => by
    rw [List.cons_append, okR, Bool.and_eq_true] at h1
    rw [okR, Bool.and_eq_true] at h2
    exact okR_split a _ b h1.2 h2.2
theorem ViewT.row0 (v : ViewT) : hasAt v.drawn (0, 0) := by
  have hl := v.drawn_len
  obtain ⟨l, hl0⟩ : ∃ l, v.drawn[0]? = some l := ⟨_, List.getElem?_eq_getElem (by omega)⟩
  have hm := List.mem_of_getElem? hl0
  have hc := v.drawn_cols l hm
  have := v.c_range
  obtain ⟨x, hx⟩ : ∃ x, l[0]? = some x := ⟨_, List.getElem?_eq_getElem (by omega)⟩
  exact ⟨l, x, hl0, hx, okR_head (v.drawn_ok l hm) hx⟩
theorem ViewT.cur_has (v : ViewT) : hasAt v.drawn v.cursor := by
  unfold ViewT.cursor
  by_cases h : v.atEnd = true
  · rw [if_pos h]
    obtain ⟨r, hr⟩ := v.s3_ext v.s3.done.length v.s3.cur (by unfold ShT.all; simp)
    have hm := List.mem_of_getElem? hr
    have hc := v.drawn_cols _ hm
    have hlt := v.s3_lt h
    have hok := okR_split _ _ _ (v.drawn_ok _ hm) v.s3_ko.2
    rw [List.length_append] at hc
    obtain ⟨x, hx⟩ : ∃ x, r[0]? = some x := ⟨_, List.getElem?_eq_getElem (by omega)⟩
    exact ⟨_, x, hr, by rw [List.getElem?_append_right (Nat.le_refl _), Nat.sub_self]; exact hx, okR_head hok hx⟩
  · rw [if_neg h]
    rcases curF_has v.c v.at' (cuts v.tx) (cuts_nz _) v.s1 0 (0, 0) (.inl rfl) with e | e
    · rw [e]; exact v.row0
    · have e3 : v.s3 = v.s2 := by unfold ViewT.s3; rw [if_neg h]
      have := v.s3_ext
      rw [e3] at this
      exact this.has e
theorem hasAt_lt {L : List RowT} {p : Nat × Nat} (h : hasAt L p) : p.1 < L.length := by
  obtain ⟨l, c, h1, _⟩ := h
  exact (List.getElem?_eq_some_iff.1 h1).1
/-- What a frame's rows are, one by one. -/
theorem ViewT.of_row (v : ViewT) (k : Nat) : v.of.rows[k]? = if k < v.n then v.drawn[v.top + k]? else none := by
  show (((v.drawn.drop v.top).take v.n)[k]? : Option RowT) = _
  rw [List.getElem?_take]
  split
  · rw [List.getElem?_drop]
  · rfl
theorem ViewT.of_len (v : ViewT) : v.of.rows.length = min v.n (v.drawn.length - v.top) := by
  show ((v.drawn.drop v.top).take v.n).length = _
  rw [List.length_take, List.length_drop]
theorem ViewT.top_le (v : ViewT) : v.top ≤ v.cursor.1 ∧ v.cursor.1 - v.top < v.n := by
  have := v.n_range
  unfold ViewT.top; omega
theorem ViewT.of_mem (v : ViewT) : ∀ l ∈ v.of.rows, l ∈ v.drawn := fun l hl => List.mem_of_mem_drop (List.mem_of_mem_take hl)
theorem ViewT.of_has (v : ViewT) : hasAt v.of.rows (v.of.row, v.of.col) := by
  obtain ⟨l, c, h1, h2, h3⟩ := v.cur_has
  have ht := v.top_le
  refine ⟨l, c, ?_, h2, h3⟩
  show v.of.rows[v.cursor.1 - v.top]? = some l
  rw [v.of_row, if_pos ht.2, show v.top + (v.cursor.1 - v.top) = v.cursor.1 by omega]
  exact h1
theorem ViewT.of_cols (v : ViewT) : ∀ l ∈ v.of.rows, l.length = v.c := fun l hl => v.drawn_cols l (v.of_mem l hl)
theorem ViewT.of_ok (v : ViewT) : ∀ l ∈ v.of.rows, okR false l = true := fun l hl => v.drawn_ok l (v.of_mem l hl)
/-- LayoutCells' round: what each cell answers. -/
def badCell (cols : Nat) (l : RowT) (j : Nat) (c : CellT) : Bool :=
  (c.wd == 0) != (decide (0 < j) && (l.getD (j - 1) blankC).wd == 2) || (decide (c.s = []) != (decide (0 < j) && (l.getD (j - 1) blankC).wd == 2) || (decide (c.wd < 0) || (decide (2 < c.wd) || (c.wd == 2 && decide (j + 1 = cols)))))
theorem ok_good {cols : Nat} {l : RowT} (h : okR false l = true) (hl : l.length = cols) {j : Nat} {c : CellT} (hc : l[j]? = some c) : badCell cols l j c = false := by
  obtain ⟨i1, i2, i3, i4, i5⟩ := okR_get l false h j c hc
  have hj := (List.getElem?_eq_some_iff.1 hc).1
  have e : (if j = 0 then false else (l[j - 1]?.map (·.wd)) == some 2) = (decide (0 < j) && (l.getD (j - 1) blankC).wd == 2) := by
    by_cases h0 : j = 0
    · subst h0; rfl
    · have h1 : l[j - 1]? = some (l[j - 1]'(by omega)) := List.getElem?_eq_getElem (by omega)
      rw [if_neg h0, List.getD_eq_getElem?_getD, h1, decide_eq_true (by omega : 0 < j)]
      simp
  rw [e] at i1 i2
  unfold badCell
  obtain ⟨hf, hhf⟩ : ∃ hf, hf = (decide (0 < j) && (l.getD (j - 1) blankC).wd == 2) := ⟨_, rfl⟩
  rw [← hhf] at i1 i2 ⊢
  have a1 : (c.wd == 0) = hf := by
    rw [Bool.eq_iff_iff, ← i1]; simp
  have a2 : decide (c.s = []) = hf := by
    rw [Bool.eq_iff_iff, ← i2]; simp
  have a3 : decide (c.wd < 0) = false := decide_eq_false (by omega)
  have a4 : decide (2 < c.wd) = false := decide_eq_false (by omega)
  have a5 : (c.wd == 2 && decide (j + 1 = cols)) = false := by
    rw [Bool.and_eq_false_iff]
    by_cases h2 : c.wd = 2
    · right; have := i5 h2; exact decide_eq_false (by omega)
    · left; simpa using h2
  rw [a1, a2, a3, a4, a5]
  cases hf <;> rfl
/-! The ghost. -/
def dimR (l : RowT) : Bool := l.all (·.dim)
def noDim (l : RowT) : Bool := l.all fun c => !c.dim
theorem noDim_app (a b : RowT) : noDim (a ++ b) = (noDim a && noDim b) := List.all_append
theorem dimR_app (a b : RowT) : dimR (a ++ b) = (dimR a && dimR b) := List.all_append
theorem noDim_cells (cols : Nat) (c : Bs) : noDim (cellsP cols c false) = true := by
  unfold cellsP
  split
  · rfl
  · split <;> rfl
theorem dimR_cells (cols : Nat) (c : Bs) : dimR (cellsP cols c true) = true := by
  unfold cellsP
  split
  · rfl
  · split <;> rfl
theorem noDim_blanks (n : Nat) : noDim (blanks n) = true := by
  unfold noDim blanks
  rw [List.all_eq_true]
  intro c hc
  rw [(List.mem_replicate.1 hc).2]; rfl
theorem ghF_dim (cols room : Nat) : (l : List Bs) → (G : RowT) → dimR G = true → dimR (ghF cols room G l) = true
  | [], G, h => h
  | c :: l, G, h => by
    unfold ghF
    split
    · exact h
    · exact ghF_dim cols room l _ (by rw [dimR_app, h, dimR_cells]; rfl)
theorem ghostP_dim (cols col : Nat) (g : Bs) : dimR (ghostP cols col g) = true := by
  unfold ghostP
  split
  · rw [dimR_app, ghF_dim _ _ _ _ rfl]; rfl
  · exact ghF_dim _ _ _ _ rfl
def ShT.Nd (S : ShT) : Prop := (∀ l ∈ S.done, noDim l = true) ∧ noDim S.cur = true
theorem fit_nd {cols : Nat} {S : ShT} (h : S.Nd) (n : Nat) : (fitP cols S n).Nd := by
  unfold fitP
  split
  · refine ⟨fun l hl => ?_, rfl⟩
    rcases List.mem_append.1 hl with hl | hl
    · exact h.1 l hl
    · rw [List.mem_singleton] at hl; subst hl; unfold padP; rw [noDim_app, h.2, noDim_blanks]; rfl
  · exact h
theorem put_nd {cols : Nat} {S : ShT} (h : S.Nd) (c : Bs) : (putP cols S c).Nd :=
  ⟨(fit_nd h _).1, by unfold putP; dsimp only; rw [noDim_app, (fit_nd h _).2, noDim_cells]; rfl⟩
theorem fold_nd {cols : Nat} : (l : List Bs) → (S : ShT) → S.Nd → (foldS cols S l).Nd
  | [], S, h => h
  | c :: l, S, h => fold_nd l _ (put_nd h c)
theorem ViewT.s3_nd (v : ViewT) : v.s3.Nd := by
  have h2 : v.s2.Nd := fold_nd _ _ (fold_nd _ _ ⟨fun _ h => by simp at h, rfl⟩)
  unfold ViewT.s3
  split
  · exact fit_nd h2 1
  · exact h2
theorem rcells_nd (cols : Nat) (l : List Bs) : noDim (rcells cols l) = true := by
  induction l with
  | nil => rfl
  | cons c l ih =>
    unfold rcells at ih ⊢
    rw [List.flatMap_cons, noDim_app, ih, noDim_cells]; rfl
def ViewT.noGhost (v : ViewT) : ViewT := { v with ghost := [] }
theorem plainL_nil : plainL [] = [] := by
  unfold plainL
  have h : pl [] = [] := Pl.nil
  rw [h]; rfl
theorem ghostP_nil (cols col : Nat) : ghostP cols col [] = [] := by
  unfold ghostP overP
  rw [cuts_nil, if_neg (by simp [wsum])]
  rfl
theorem ViewT.noGhost_gh (v : ViewT) : v.noGhost.gh = [] := by
  unfold ViewT.gh
  split
  · show ghostP _ _ (plainL []) = []
    rw [plainL_nil, ghostP_nil]
  · rfl
theorem ViewT.noGhost_same (v : ViewT) : v.noGhost.c = v.c ∧ v.noGhost.n = v.n ∧ v.noGhost.s3 = v.s3 ∧ v.noGhost.cursor = v.cursor ∧ v.noGhost.top = v.top ∧ v.noGhost.pr = v.pr ∧ v.noGhost.atEnd = v.atEnd := ⟨rfl, rfl, rfl, rfl, rfl, rfl, rfl⟩
theorem ViewT.noGhost_A (v : ViewT) : v.noGhost.A = v.s3.cur := by
  unfold ViewT.A; rw [v.noGhost_gh, List.append_nil]; rfl
/-- The right prompt stands without the ghost, if it does with it. -/
theorem ViewT.noGhost_right (v : ViewT) (h : v.isR = true) : v.noGhost.isR = true := by
  unfold ViewT.isR at h ⊢
  simp only [Bool.and_eq_true, decide_eq_true_eq] at h ⊢
  refine ⟨h.1, ?_⟩
  have e : (v.noGhost.first : Int) ≤ v.first := by
    unfold ViewT.first
    rw [v.noGhost_A]
    show ((if v.s3.done = [] then v.s3.cur.length else v.c : Nat) : Int) ≤ ((if v.s3.done = [] then v.A.length else v.c : Nat) : Int)
    split
    · unfold ViewT.A; rw [List.length_append]; omega
    · exact Int.le_refl _
  have : wsum (cuts v.noGhost.pr) = wsum (cuts v.pr) := rfl
  have e2 : v.noGhost.c = v.c := rfl
  rw [this, e2]
  omega
/-- Each cell of the last row, with the ghost, and without it. -/
theorem ViewT.ghost_row (v : ViewT) {k j : Nat} {l m : RowT} {x y : CellT} (hl : v.drawn[k]? = some l) (hm : v.noGhost.drawn[k]? = some m) (hx : l[j]? = some x) (hy : m[j]? = some y) :
    (x = y ∨ (k = v.cursor.1 ∧ v.cursor.2 ≤ j ∧ (x.dim = true ∨ v.noGhost.isR = true))) ∧ (x.dim = true → k = v.cursor.1 ∧ v.cursor.2 ≤ j) := by
  have nd := v.s3_nd
  by_cases hE : v.atEnd = true
  · have hcur : v.cursor = (v.s3.done.length, v.s3.cur.length) := by unfold ViewT.cursor; rw [if_pos hE]
    by_cases hk : k < v.s3.done.length
    · -- a row ahead of the last one
      have nR : ¬ v.isR = true := fun h => by have := (v.right_is h).2.1; rw [this] at hk; simp at hk
      have nR2 : ¬ v.noGhost.isR = true := fun h => by
        have := (v.noGhost.right_is h).2.1
        have e : v.noGhost.s3 = v.s3 := rfl
        rw [e] at this; rw [this] at hk; simp at hk
      unfold ViewT.drawn at hl hm
      rw [if_neg nR, List.getElem?_append_left hk] at hl
      rw [if_neg nR2] at hm
      have e : v.noGhost.s3 = v.s3 := rfl
      rw [e, List.getElem?_append_left hk, hl] at hm
      injection hm with hm
      subst hm
      rw [hx] at hy
      injection hy with hy
      subst hy
      refine ⟨.inl rfl, fun hd => ?_⟩
      have := nd.1 l (List.mem_of_getElem? hl)
      unfold noDim at this
      rw [List.all_eq_true] at this
      have := this x (List.mem_of_getElem? hx)
      rw [hd] at this; cases this
    · have hk2 : k = v.s3.done.length := by
        have h1 := (List.getElem?_eq_some_iff.1 hl).1
        rw [v.drawn_len] at h1; omega
      subst hk2
      obtain ⟨r, hr⟩ := v.s3_ext v.s3.done.length v.s3.cur (by unfold ShT.all; simp)
      obtain ⟨q, hq⟩ := v.noGhost.s3_ext v.s3.done.length v.s3.cur (by
        have e : v.noGhost.s3 = v.s3 := rfl
        rw [e]; unfold ShT.all; simp)
      rw [hl] at hr; injection hr with hr
      rw [hm] at hq; injection hq with hq
      rw [hcur]
      dsimp only
      by_cases hj : j < v.s3.cur.length
      · rw [hr, List.getElem?_append_left hj] at hx
        rw [hq, List.getElem?_append_left hj, hx] at hy
        injection hy with hy
        subst hy
        refine ⟨.inl rfl, fun hd => ?_⟩
        have := nd.2
        unfold noDim at this
        rw [List.all_eq_true] at this
        have := this x (List.mem_of_getElem? hx)
        rw [hd] at this; cases this
      · refine ⟨?_, fun _ => ⟨rfl, by omega⟩⟩
        by_cases hd : x.dim = true
        · exact .inr ⟨rfl, by omega, .inl hd⟩
        by_cases hR2 : v.noGhost.isR = true
        · exact .inr ⟨rfl, by omega, .inr hR2⟩
        · left
          have nR : ¬ v.isR = true := fun h => hR2 (v.noGhost_right h)
          unfold ViewT.drawn at hl hm
          have e : v.noGhost.s3 = v.s3 := rfl
          rw [if_neg nR, List.getElem?_append_right (Nat.le_refl _), Nat.sub_self] at hl
          rw [if_neg hR2, e, List.getElem?_append_right (Nat.le_refl _), Nat.sub_self, v.noGhost_A] at hm
          simp at hl hm
          subst hl hm
          unfold padP at hx hy
          rw [List.getElem?_append_right (by omega)] at hy
          unfold blanks at hx hy
          have hy2 : y = blankC := by
            have := List.mem_of_getElem? hy
            exact (List.mem_replicate.1 this).2
          subst hy2
          by_cases hj2 : j < v.A.length
          · rw [List.getElem?_append_left hj2] at hx
            unfold ViewT.A at hx
            rw [List.getElem?_append_right (by omega)] at hx
            have hg : dimR v.gh = true := by
              unfold ViewT.gh; rw [if_pos hE]; exact ghostP_dim _ _ _
            unfold dimR at hg
            rw [List.all_eq_true] at hg
            exact absurd (hg x (List.mem_of_getElem? hx)) hd
          · rw [List.getElem?_append_right (by omega)] at hx
            exact (List.mem_replicate.1 (List.mem_of_getElem? hx)).2
  · -- the cursor is not at the end: nothing is changed
    have hg : v.gh = [] := by unfold ViewT.gh; rw [if_neg hE]
    have hA : v.A = v.s3.cur := by unfold ViewT.A; rw [hg, List.append_nil]
    have hA2 := v.noGhost_A
    have hR : v.isR = v.noGhost.isR := by
      unfold ViewT.isR ViewT.first
      rw [hA, hA2]; rfl
    have hd : v.drawn = v.noGhost.drawn := by
      unfold ViewT.drawn
      rw [hR, hA, hA2]; rfl
    rw [hd, hm] at hl
    injection hl with hl
    subst hl
    rw [hy] at hx
    injection hx with hx
    subst hx
    refine ⟨.inl rfl, fun hdm => ?_⟩
    have hn : noDim m = true := by
      have hmem := List.mem_of_getElem? hm
      rw [← hd] at hmem
      unfold ViewT.drawn at hmem
      split at hmem
      · rw [List.mem_singleton] at hmem
        subst hmem
        unfold rightP
        rw [hA, noDim_app, noDim_app, nd.2, noDim_blanks, rcells_nd]; rfl
      · rcases List.mem_append.1 hmem with hmem | hmem
        · exact nd.1 _ hmem
        · rw [List.mem_singleton] at hmem; subst hmem; unfold padP; rw [hA, noDim_app, nd.2, noDim_blanks]; rfl
    unfold noDim at hn
    rw [List.all_eq_true] at hn
    have := hn y (List.mem_of_getElem? hy)
    rw [hdm] at this; cases this
end Go.Proofs.YtfgjhfmgacopoaaDoor
