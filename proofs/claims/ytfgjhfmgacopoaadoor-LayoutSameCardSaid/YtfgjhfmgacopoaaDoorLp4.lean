import Derived.Test.YtfgjhfmgacopoaaDoorLp3
namespace Go.Proofs.YtfgjhfmgacopoaaDoor
set_option linter.unusedVariables false
set_option linter.unusedSimpArgs false
/-! Chapter 18 in plain Lean: LayoutText, LayoutTop. -/
def nb (r : Nat) : Bool := decide (r ≠ 32)
def nbS (s : Bs) : Bs := ((runes s).filter nb).flatMap enc
def gotP (L : List RowT) : Bs := L.flatMap fun l => l.flatMap (·.s)
def wantP (l s : Bs) : Bs := (cuts (pl l)).flatMap shown ++ (cuts (pl s)).flatMap shown
theorem runes_flat {α : Type} (f : α → Bs) : (l : List α) → (∀ x ∈ l, clean (f x) = f x) → runes (l.flatMap f) = l.flatMap (fun x => runes (f x))
  | [], _ => rfl
  | x :: l, h => by
    have e := runes_clean (f x) (l.flatMap f)
    rw [h x (List.mem_cons_self ..)] at e
    rw [List.flatMap_cons, List.flatMap_cons, e, runes_flat f l fun y hy => h y (List.mem_cons_of_mem _ hy)]
theorem clean_wrong : clean wrongB = wrongB := by decide
theorem clean_shown (c : Bs) : clean (shown c) = shown c := by
  unfold shown
  split
  · rfl
  · split
    · exact clean_wrong
    · exact clean_clean c
def clR (l : RowT) : Prop := ∀ c ∈ l, clean c.s = c.s
theorem clR_app {a b : RowT} (h : clR a) (k : clR b) : clR (a ++ b) := fun c hc => by
  rcases List.mem_append.1 hc with e | e
  · exact h c e
  · exact k c e
theorem clR_cells (cols : Nat) (c : Bs) (d : Bool) : clR (cellsP cols c d) := by
  unfold cellsP
  split
  · intro x hx; rw [List.mem_singleton] at hx; subst hx; exact clean_shown c
  · split
    · intro x hx; rw [List.mem_singleton] at hx; subst hx; exact clean_wrong
    · intro x hx
      rcases List.mem_cons.1 hx with e | e
      · subst e; exact clean_shown c
      · rw [List.mem_singleton] at e; subst e; rfl
theorem clR_blanks (n : Nat) : clR (blanks n) := fun c hc => by
  rw [(List.mem_replicate.1 hc).2]; decide
def nbR (l : RowT) : List Nat := l.flatMap fun c => (runes c.s).filter nb
theorem nbR_app (a b : RowT) : nbR (a ++ b) = nbR a ++ nbR b := by unfold nbR; rw [List.flatMap_append]
theorem nbR_blanks (n : Nat) : nbR (blanks n) = [] := by
  unfold nbR blanks
  rw [List.flatMap_eq_nil_iff]
  intro c hc
  rw [(List.mem_replicate.1 hc).2]; decide
theorem nbR_cells {cols : Nat} (hc : cols ≠ 1) (c : Bs) : nbR (cellsP cols c false) = (runes (shown c)).filter nb := by
  unfold cellsP nbR
  split
  · simp
  · simp [runes_nil]
def ShT.Cln (S : ShT) : Prop := (∀ l ∈ S.done, clR l) ∧ clR S.cur
theorem fit_cln {cols : Nat} {S : ShT} (h : S.Cln) (n : Nat) : (fitP cols S n).Cln := by
  unfold fitP
  split
  · refine ⟨fun l hl => ?_, fun c hc => by simp at hc⟩
    rcases List.mem_append.1 hl with hl | hl
    · exact h.1 l hl
    · rw [List.mem_singleton] at hl; subst hl; exact clR_app h.2 (clR_blanks _)
  · exact h
theorem put_cln {cols : Nat} {S : ShT} (h : S.Cln) (c : Bs) : (putP cols S c).Cln :=
  ⟨(fit_cln h _).1, clR_app (fit_cln h _).2 (clR_cells _ _ _)⟩
theorem fold_cln {cols : Nat} : (l : List Bs) → (S : ShT) → S.Cln → (foldS cols S l).Cln
  | [], S, h => h
  | c :: l, S, h => fold_cln l _ (put_cln h c)
theorem ViewT.s3_cln (v : ViewT) : v.s3.Cln := by
  have h2 : v.s2.Cln := fold_cln _ _ (fold_cln _ _ ⟨fun _ h => by simp at h, fun c hc => by simp at hc⟩)
  unfold ViewT.s3
  split
  · exact fit_cln h2 1
  · exact h2
def nbT (S : ShT) : List Nat := S.done.flatMap nbR ++ nbR S.cur
theorem nbT_fit (cols : Nat) (S : ShT) (n : Nat) : nbT (fitP cols S n) = nbT S := by
  unfold fitP
  split
  · unfold nbT ShT.rows padP
    dsimp only
    rw [List.flatMap_append, List.flatMap_cons, List.flatMap_nil, List.append_nil, nbR_app, nbR_blanks, List.append_nil]
    show _ ++ nbR [] = _
    unfold nbR
    rw [List.flatMap_nil, List.append_nil]
  · rfl
theorem nbT_put {cols : Nat} (hc : cols ≠ 1) (S : ShT) (c : Bs) : nbT (putP cols S c) = nbT S ++ (runes (shown c)).filter nb := by
  have e := nbT_fit cols S (cellsP cols c false).length
  rw [← e]
  unfold nbT putP
  dsimp only
  rw [nbR_app, nbR_cells hc, List.append_assoc]
theorem nbT_fold {cols : Nat} (hc : cols ≠ 1) : (l : List Bs) → (S : ShT) → nbT (foldS cols S l) = nbT S ++ l.flatMap (fun c => (runes (shown c)).filter nb)
  | [], S => by simp [foldS]
  | c :: l, S => by
    have e : foldS cols S (c :: l) = foldS cols (putP cols S c) l := rfl
    rw [e, nbT_fold hc l, nbT_put hc, List.flatMap_cons, List.append_assoc]
def txV (c : Int) (l s : Bs) : ViewT := ⟨60, c, l, [], [], s, 0⟩
theorem ViewT.c_two {v : ViewT} (h : 2 ≤ v.cols) : 2 ≤ v.c := by
  unfold ViewT.c clampN; omega
theorem flat_gh (v : ViewT) (h : v.ghost = []) : v.gh = [] := by
  unfold ViewT.gh
  split
  · rw [h, plainL_nil, ghostP_nil]
  · rfl
theorem not_right (v : ViewT) (h : v.right = []) : ¬ v.isR = true := by
  unfold ViewT.isR ViewT.pr
  rw [h, plainL_nil]; simp
/-- With rows enough all rows are shown. -/
theorem ViewT.all_rows (v : ViewT) (hr : v.rows = 60) (hc : 2 ≤ v.cols) (h : v.left.length + v.text.length ≤ 100) : v.of.rows = v.drawn ∧ v.top = 0 ∧ v.of.row = v.cursor.1 := by
  have hl := v.rows_le (ViewT.c_two hc) h
  have hcu := v.cur_lt
  have hn : v.n = 60 := by unfold ViewT.n clampN; rw [hr]; rfl
  have ht : v.top = 0 := by unfold ViewT.top; rw [hn]; omega
  refine ⟨?_, ht, ?_⟩
  · show (v.drawn.drop v.top).take v.n = v.drawn
    rw [ht, hn, List.drop_zero, List.take_of_length_le (by omega)]
  · show v.cursor.1 - v.top = _
    rw [ht, Nat.sub_zero]
theorem filter_flat {α β : Type} (p : β → Bool) (f : α → List β) : (l : List α) → (l.flatMap f).filter p = l.flatMap fun x => (f x).filter p
  | [] => rfl
  | x :: l => by rw [List.flatMap_cons, List.flatMap_cons, List.filter_append, filter_flat p f l]
theorem text_law {c : Int} {l s : Bs} (hc : 2 ≤ c) (h : l.length + s.length ≤ 100) : nbS (gotP (txV c l s).of.rows) = nbS (wantP l s) := by
  obtain ⟨v, hv⟩ : ∃ v, v = txV c l s := ⟨_, rfl⟩
  have h1 : v.left = l := by rw [hv]; rfl
  have h2 : v.text = s := by rw [hv]; rfl
  have hr := (v.all_rows (by rw [hv]; rfl) (by rw [hv]; exact hc) (by rw [h1, h2]; exact h)).1
  have hc2 : v.c ≠ 1 := by have := ViewT.c_two (v := v) (by rw [hv]; exact hc); omega
  have hg := flat_gh v (by rw [hv]; rfl)
  have hR := not_right v (by rw [hv]; rfl)
  rw [← hv, hr]
  have hd : v.drawn = v.s3.done ++ [padP v.c v.s3.cur] := by
    unfold ViewT.drawn ViewT.A
    rw [if_neg hR, hg, List.append_nil]
  have hcl := v.s3_cln
  have hrow : ∀ r ∈ v.drawn, clR r := fun r hr => by
    rw [hd] at hr
    rcases List.mem_append.1 hr with e | e
    · exact hcl.1 r e
    · rw [List.mem_singleton] at e; subst e; exact clR_app hcl.2 (clR_blanks _)
  have e1 : (runes (gotP v.drawn)).filter nb = v.drawn.flatMap nbR := by
    have : gotP v.drawn = v.drawn.flatten.flatMap (·.s) := by
      unfold gotP
      rw [List.flatMap_def, List.flatMap_def, List.map_flatten, List.flatten_flatten, List.map_map]
      congr 1
    rw [this, runes_flat (fun (x : CellT) => x.s) v.drawn.flatten (fun x hx => by
      obtain ⟨r, hr, hx2⟩ := List.mem_flatten.1 hx
      exact hrow r hr x hx2), filter_flat]
    unfold nbR
    rw [List.flatMap_def, List.flatMap_def, List.map_flatten, List.flatten_flatten, List.map_map]
    congr 1
  have e2 : v.drawn.flatMap nbR = nbT v.s3 := by
    rw [hd]
    unfold nbT padP
    rw [List.flatMap_append, List.flatMap_cons, List.flatMap_nil, List.append_nil, nbR_app, nbR_blanks, List.append_nil]
  have e3 : nbT v.s3 = nbT v.s2 := by
    unfold ViewT.s3
    split
    · exact nbT_fit _ _ _
    · rfl
  have e4 : nbT v.s2 = (cuts (pl l)).flatMap (fun c => (runes (shown c)).filter nb) ++ (cuts (pl s)).flatMap (fun c => (runes (shown c)).filter nb) := by
    have et : v.tx = pl s := by unfold ViewT.tx; rw [h2, plainL_eq (by omega)]
    unfold ViewT.s2 ViewT.s1
    rw [nbT_fold hc2, nbT_fold hc2, h1, et, plainL_eq (l := l) (by omega)]
    rfl
  have e5 : (runes (wantP l s)).filter nb = (cuts (pl l)).flatMap (fun c => (runes (shown c)).filter nb) ++ (cuts (pl s)).flatMap (fun c => (runes (shown c)).filter nb) := by
    unfold wantP
    rw [← List.flatMap_append, runes_flat _ _ (fun x _ => clean_shown x), filter_flat, List.flatMap_append]
  unfold nbS
  rw [e1, e2, e3, e4, e5]
/-! LayoutTop. -/
def ViewT.rowsV (v : ViewT) (n : Int) : ViewT := { v with rows := n }
theorem top_facts (v : ViewT) {rows : Int} (hc : 2 ≤ v.cols) (h : v.left.length + v.text.length ≤ 100) (h1 : 1 ≤ rows) (h2 : rows ≤ 60) :
    (v.rowsV rows).of.row + (v.rowsV rows).top = (v.rowsV 60).of.row ∧ (v.rowsV rows).of.col = (v.rowsV 60).of.col ∧
    ((v.rowsV rows).of.rows.length : Int) = min rows ((v.rowsV 60).of.rows.length - ((v.rowsV rows).top : Int)) ∧ ((v.rowsV rows).top < (v.rowsV 60).of.rows.length) ∧
    (0 < (v.rowsV rows).top → ((v.rowsV rows).of.row : Int) = rows - 1) ∧
    ∀ k l, (v.rowsV rows).of.rows[k]? = some l → (v.rowsV 60).of.rows[(v.rowsV rows).top + k]? = some l := by
  obtain ⟨ha, ht, hrow⟩ := (v.rowsV 60).all_rows rfl hc h
  have ed : (v.rowsV rows).drawn = (v.rowsV 60).drawn := rfl
  have ec : (v.rowsV rows).cursor = (v.rowsV 60).cursor := rfl
  have en : ((v.rowsV rows).n : Int) = rows := by
    have := clamp_id (n := rows) (hi := 60) h1 h2
    exact this
  have htl := (v.rowsV rows).top_le
  have hcu := (v.rowsV 60).cur_lt
  have hlen := (v.rowsV rows).of_len
  rw [ed] at hlen
  have hdef : (v.rowsV rows).top = (v.rowsV 60).cursor.1 + 1 - (v.rowsV rows).n := rfl
  rw [ec] at htl
  rw [hrow, ha]
  have er : (v.rowsV rows).of.row = (v.rowsV 60).cursor.1 - (v.rowsV rows).top := rfl
  refine ⟨by rw [er]; omega, rfl, by rw [hlen]; omega, by omega, fun h0 => by rw [er]; omega, fun k l hk => ?_⟩
  rw [(v.rowsV rows).of_row] at hk
  split at hk
  · rw [ed] at hk; exact hk
  · cases hk
end Go.Proofs.YtfgjhfmgacopoaaDoor
