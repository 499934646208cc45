import Derived.Test.YtfgjhfmgacopoaaDoorLo1
namespace Go.Proofs.YtfgjhfmgacopoaaDoor
set_option linter.unusedVariables false
set_option linter.unusedSimpArgs false
/-! Chapter 18 in plain Lean: what stands in the rows. -/
/-- Is a row made of whole pieces? (h: is the cell ahead of it two columns wide?) -/
def okR : Bool → RowT → Bool
  | h, [] => !h
  | h, c :: l => ((c.wd == 0) == h) && (decide (c.s = []) == h) && (decide (0 ≤ c.wd) && decide (c.wd ≤ 2)) && okR (c.wd == 2) l
theorem okR_app : (l : RowT) → (h : Bool) → (m : RowT) → okR h l = true → okR false m = true → okR h (l ++ m) = true
  | [], h, m, h1, h2 => by
    unfold okR at h1
    cases h
    · exact h2
    · cases h1
  | c :: l, h, m, h1, h2 => by
    unfold okR at h1
    rw [Bool.and_eq_true] at h1
    rw [List.cons_append, okR, Bool.and_eq_true]
    exact ⟨h1.1, okR_app l _ m h1.2 h2⟩
theorem okR_flat (ls : List RowT) (h : ∀ l ∈ ls, okR false l = true) : okR false ls.flatten = true := by
  induction ls with
  | nil => rfl
  | cons l ls ih =>
    rw [List.flatten_cons]
    exact okR_app l _ _ (h l (List.mem_cons_self ..)) (ih fun m hm => h m (List.mem_cons_of_mem _ hm))
theorem okR_rep (n : Nat) (c : CellT) (hc : okR false [c] = true) : okR false (List.replicate n c) = true := by
  induction n with
  | zero => rfl
  | succ n ih => rw [List.replicate_succ]; exact okR_app [c] _ _ hc ih
theorem okR_blanks (n : Nat) : okR false (blanks n) = true := okR_rep n _ (by decide)
theorem shown_ne {c : Bs} (h : c ≠ []) : shown c ≠ [] := by
  unfold shown
  rw [if_neg h]
  split
  · decide
  · exact (clean_ne h).1
theorem okR_cells (cols : Nat) {c : Bs} (d : Bool) (h : c ≠ []) : okR false (cellsP cols c d) = true := by
  unfold cellsP
  have hs := shown_ne h
  split
  · simp [okR, hs]
  · split
    · simp [okR]; decide
    · simp [okR, hs]
theorem okR_dots : okR false [dotsC] = true := by decide
/-- What a cell of such a row is. -/
theorem okR_get : (l : RowT) → (h : Bool) → okR h l = true → ∀ (j : Nat) (c : CellT), l[j]? = some c →
    (c.wd = 0 ↔ (if j = 0 then h else (l[j - 1]?.map (·.wd)) == some 2) = true) ∧ (c.s = [] ↔ (if j = 0 then h else (l[j - 1]?.map (·.wd)) == some 2) = true) ∧ 0 ≤ c.wd ∧ c.wd ≤ 2 ∧ (c.wd = 2 → j + 1 < l.length)
  | [], h, h1, j, c, hj => by simp at hj
  | x :: l, h, h1, 0, c, hj => by
    simp at hj
    subst hj
    unfold okR at h1
    simp only [Bool.and_eq_true, beq_iff_eq, decide_eq_true_eq] at h1
    obtain ⟨⟨⟨e1, e2⟩, e3⟩, e4⟩ := h1
    refine ⟨by rw [if_pos rfl, ← e1]; simp, by rw [if_pos rfl, ← e2]; simp, e3.1, e3.2, fun h2 => ?_⟩
    rw [h2] at e4
    cases l with
    | nil => simp [okR] at e4
    | cons y l => simp
  | x :: l, h, h1, j + 1, c, hj => by
    have hj' : l[j]? = some c := by simpa using hj
    unfold okR at h1
    rw [Bool.and_eq_true] at h1
    obtain ⟨i1, i2, i3, i4, i5⟩ := okR_get l _ h1.2 j c hj'
    have e : (if j = 0 then (x.wd == 2) else (l[j - 1]?.map (·.wd)) == some 2) = (if j + 1 = 0 then h else ((x :: l)[j + 1 - 1]?.map (·.wd)) == some 2) := by
      rw [if_neg (by omega : ¬ j + 1 = 0)]
      cases j with
      | zero => rw [if_pos rfl]; simp
      | succ j => rw [if_neg (by omega)]; simp
    rw [e] at i1 i2
    exact ⟨i1, i2, i3, i4, fun h2 => by have := i5 h2; simp; omega⟩
theorem okR_head {l : RowT} {c : CellT} (h : okR false l = true) (hc : l[0]? = some c) : 0 < c.wd := by
  obtain ⟨i1, _, i3, _⟩ := okR_get l false h 0 c hc
  have : ¬ c.wd = 0 := fun e => by have := i1.1 e; simp at this
  omega
theorem ghF_ok (cols room : Nat) : (l : List Bs) → (∀ c ∈ l, c ≠ []) → (G : RowT) → okR false G = true → okR false (ghF cols room G l) = true
  | [], _, G, h => h
  | c :: l, hl, G, h => by
    unfold ghF
    split
    · exact h
    · exact ghF_ok cols room l (fun d hd => hl d (List.mem_cons_of_mem _ hd)) _ (okR_app G _ _ h (okR_cells cols true (hl c (List.mem_cons_self ..))))
theorem ghostP_ok (cols col : Nat) (g : Bs) : okR false (ghostP cols col g) = true := by
  unfold ghostP
  split
  · exact okR_app _ _ _ (ghF_ok _ _ _ (cuts_nz g) _ rfl) okR_dots
  · exact ghF_ok _ _ _ (cuts_nz g) _ rfl
theorem rcells_ok (cols : Nat) (l : List Bs) (h : ∀ c ∈ l, c ≠ []) : okR false (rcells cols l) = true := by
  induction l with
  | nil => rfl
  | cons c l ih =>
    unfold rcells at ih ⊢
    rw [List.flatMap_cons]
    exact okR_app _ _ _ (okR_cells cols false (h c (List.mem_cons_self ..))) (ih fun d hd => h d (List.mem_cons_of_mem _ hd))
theorem pad_ok (cols : Nat) {A : RowT} (h : okR false A = true) : okR false (padP cols A) = true := okR_app _ _ _ h (okR_blanks _)
def ShT.Ko (S : ShT) : Prop := (∀ l ∈ S.done, okR false l = true) ∧ okR false S.cur = true
theorem fit_ko {cols : Nat} {S : ShT} (h : S.Ko) (n : Nat) : (fitP cols S n).Ko := by
  unfold fitP
  split
  · refine ⟨fun l hl => ?_, rfl⟩
    rcases List.mem_append.1 hl with hl | hl
    · exact h.1 l hl
    · rw [List.mem_singleton] at hl; subst hl; exact pad_ok _ h.2
  · exact h
theorem put_ko {cols : Nat} {S : ShT} (h : S.Ko) {c : Bs} (hc : c ≠ []) : (putP cols S c).Ko :=
  ⟨(fit_ko h _).1, okR_app _ _ _ (fit_ko h _).2 (okR_cells cols false hc)⟩
theorem fold_ko {cols : Nat} : (l : List Bs) → (∀ c ∈ l, c ≠ []) → (S : ShT) → S.Ko → (foldS cols S l).Ko
  | [], _, S, h => h
  | c :: l, hl, S, h => fold_ko l (fun d hd => hl d (List.mem_cons_of_mem _ hd)) _ (put_ko h (hl c (List.mem_cons_self ..)))
theorem ViewT.s1_ko (v : ViewT) : v.s1.Ko := fold_ko _ (cuts_nz _) _ ⟨fun _ h => by simp at h, rfl⟩
theorem ViewT.s2_ko (v : ViewT) : v.s2.Ko := fold_ko _ (cuts_nz _) _ v.s1_ko
theorem ViewT.s3_ko (v : ViewT) : v.s3.Ko := by
  unfold ViewT.s3
  split
  · exact fit_ko v.s2_ko 1
  · exact v.s2_ko
theorem ViewT.gh_ok (v : ViewT) : okR false v.gh = true := by
  unfold ViewT.gh
  split
  · exact ghostP_ok _ _ _
  · rfl
theorem ViewT.A_ok (v : ViewT) : okR false v.A = true := okR_app _ _ _ v.s3_ko.2 v.gh_ok
theorem ViewT.drawn_ok (v : ViewT) : ∀ l ∈ v.drawn, okR false l = true := by
  intro l hl
  unfold ViewT.drawn at hl
  split at hl
  · rw [List.mem_singleton] at hl
    subst hl
    exact okR_app _ _ _ (okR_app _ _ _ v.A_ok (okR_blanks _)) (rcells_ok _ _ (cuts_nz _))
  · rcases List.mem_append.1 hl with hl | hl
    · exact v.s3_ko.1 l hl
    · rw [List.mem_singleton] at hl; subst hl; exact pad_ok _ v.A_ok
/-! Where the cursor is. -/
def hasAt (L : List RowT) (p : Nat × Nat) : Prop := ∃ l c, L[p.1]? = some l ∧ l[p.2]? = some c ∧ 0 < c.wd
/-- Rows that begin as these do. -/
def Ext (L M : List RowT) : Prop := ∀ (k : Nat) (l : RowT), L[k]? = some l → ∃ r, M[k]? = some (l ++ r)
theorem Ext.has {L M : List RowT} (h : Ext L M) {p : Nat × Nat} (hp : hasAt L p) : hasAt M p := by
  obtain ⟨l, c, h1, h2, h3⟩ := hp
  obtain ⟨r, hr⟩ := h _ _ h1
  exact ⟨_, c, hr, by rw [List.getElem?_append_left (List.getElem?_eq_some_iff.1 h2).1]; exact h2, h3⟩
theorem Ext.refl (L : List RowT) : Ext L L := fun k l h => ⟨[], by rw [List.append_nil]; exact h⟩
theorem Ext.trans {L M N : List RowT} (h : Ext L M) (k : Ext M N) : Ext L N := fun i l hl => by
  obtain ⟨r, hr⟩ := h i l hl
  obtain ⟨q, hq⟩ := k i _ hr
  exact ⟨r ++ q, by rw [← List.append_assoc]; exact hq⟩
def ShT.all (S : ShT) : List RowT := S.done ++ [S.cur]
theorem ext_last (D : List RowT) (a b : RowT) (E : List RowT) : Ext (D ++ [a]) (D ++ (a ++ b) :: E) := fun k l hl => by
  by_cases hk : k < D.length
  · rw [List.getElem?_append_left hk] at hl
    exact ⟨[], by rw [List.getElem?_append_left hk, hl, List.append_nil]⟩
  · rw [List.getElem?_append_right (by omega)] at hl
    have h0 : k - D.length = 0 := by have := (List.getElem?_eq_some_iff.1 hl).1; simpa using this
    rw [h0] at hl
    simp at hl
    subst hl
    exact ⟨b, by rw [List.getElem?_append_right (by omega), h0]; rfl⟩
theorem fit_ext (cols : Nat) (S : ShT) (n : Nat) : Ext S.all (fitP cols S n).all := by
  unfold fitP
  split
  · have := ext_last S.done S.cur (blanks (cols - S.cur.length)) [[]]
    unfold ShT.all ShT.rows padP
    simpa using this
  · exact Ext.refl _
theorem put_ext (cols : Nat) (S : ShT) (c : Bs) : Ext S.all (putP cols S c).all :=
  (fit_ext cols S _).trans (ext_last _ _ _ [])
theorem fold_ext (cols : Nat) : (l : List Bs) → (S : ShT) → Ext S.all (foldS cols S l).all
  | [], S => Ext.refl _
  | c :: l, S => (put_ext cols S c).trans (fold_ext cols l _)
theorem place_has (cols : Nat) (S : ShT) {c : Bs} (hc : c ≠ []) : hasAt (putP cols S c).all (placeP cols S c) := by
  have hcell : ∃ x, (cellsP cols c false)[0]? = some x := by
    unfold cellsP
    split
    · exact ⟨_, rfl⟩
    · split
      · exact ⟨_, rfl⟩
      · exact ⟨_, rfl⟩
  obtain ⟨x, hx⟩ := hcell
  refine ⟨(putP cols S c).cur, x, ?_, ?_, okR_head (okR_cells cols false hc) hx⟩
  · show ((fitP cols S (cellsP cols c false).length).done ++ [(putP cols S c).cur])[(fitP cols S (cellsP cols c false).length).done.length]? = _
    simp
  · show ((fitP cols S (cellsP cols c false).length).cur ++ cellsP cols c false)[(fitP cols S (cellsP cols c false).length).cur.length]? = _
    rw [List.getElem?_append_right (Nat.le_refl _), Nat.sub_self]; exact hx
theorem curF_has (cols a : Nat) : (l : List Bs) → (∀ c ∈ l, c ≠ []) → (S : ShT) → (k : Nat) → (p : Nat × Nat) → (p = (0, 0) ∨ hasAt S.all p) → (curF cols a S k l p = (0, 0) ∨ hasAt (foldS cols S l).all (curF cols a S k l p))
  | [], _, S, k, p, h => h
  | c :: l, hl, S, k, p, h => by
    rw [curF]
    refine curF_has cols a l (fun d hd => hl d (List.mem_cons_of_mem _ hd)) (putP cols S c) (k + c.length) _ ?_
    split
    · exact .inr (place_has cols S (hl c (List.mem_cons_self ..)))
    · rcases h with h | h
      · exact .inl h
      · exact .inr ((put_ext cols S c).has h)
theorem ViewT.s3_ext (v : ViewT) : Ext v.s3.all v.drawn := by
  unfold ViewT.drawn
  split
  · rename_i h
    have hd := (v.right_is h).2.1
    unfold ShT.all
    rw [hd]
    have := ext_last [] v.s3.cur (v.gh ++ (blanks (v.c - v.A.length - (rcells v.c (cuts v.pr)).length) ++ rcells v.c (cuts v.pr))) []
    unfold rightP
    simpa [ViewT.A, List.append_assoc] using this
  · have := ext_last v.s3.done v.s3.cur (v.gh ++ blanks (v.c - v.A.length)) []
    unfold ShT.all padP
    simpa [ViewT.A, List.append_assoc] using this
end Go.Proofs.YtfgjhfmgacopoaaDoor
