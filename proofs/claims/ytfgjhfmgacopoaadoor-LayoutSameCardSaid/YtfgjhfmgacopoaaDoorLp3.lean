import Derived.Test.YtfgjhfmgacopoaaDoorLp2
namespace Go.Proofs.YtfgjhfmgacopoaaDoor
set_option linter.unusedVariables false
set_option linter.unusedSimpArgs false
/-! Chapter 18 in plain Lean: LayoutDots; how many rows there are; LayoutText, LayoutTop. -/
def dotsB : Bs := [0xe2, 0x80, 0xa6]
/-- What LayoutDots counts. -/
def dotF (l : RowT) : Nat × Bool := l.foldl (fun p c => if c.dim then (p.1 + 1, decide (c.s = dotsB)) else p) (0, false)
theorem dotF_snoc (l : RowT) (c : CellT) : dotF (l ++ [c]) = if c.dim then ((dotF l).1 + 1, decide (c.s = dotsB)) else dotF l := by
  unfold dotF; rw [List.foldl_append]; rfl
theorem dotF_dimN : ∀ (n : Nat) (l : RowT), l.length = n → dimR l = true → (dotF l).1 = l.length := by
  intro n
  induction n with
  | zero => intro l hl _; have := List.eq_nil_of_length_eq_zero hl; subst this; rfl
  | succ n ih =>
    intro l hl hd
    have hne : l ≠ [] := fun e => by rw [e] at hl; cases hl
    have e := List.dropLast_concat_getLast hne
    rw [← e] at hd ⊢
    rw [dimR_app, Bool.and_eq_true] at hd
    have hc : (l.getLast hne).dim = true := by have := hd.2; unfold dimR at this; simpa using this
    rw [dotF_snoc, if_pos hc, List.length_append]
    have := ih l.dropLast (by rw [List.length_dropLast, hl]; rfl) hd.1
    simp only [this]; rfl
theorem dotF_dim (l : RowT) (h : dimR l = true) : (dotF l).1 = l.length := dotF_dimN _ l rfl h
theorem dotF_blanks (G : RowT) (n : Nat) : dotF (G ++ blanks n) = dotF G := by
  induction n with
  | zero => unfold blanks; rw [List.replicate_zero, List.append_nil]
  | succ n ih =>
    unfold blanks at ih ⊢
    rw [List.replicate_succ', ← List.append_assoc, dotF_snoc, if_neg (by unfold blankC; simp), ih]
theorem ghF_room (cols room : Nat) : (l : List Bs) → (G : RowT) → G.length ≤ room → (ghF cols room G l = G ++ l.flatMap (fun c => cellsP cols c true)) ∨ room < (ghF cols room G l).length + 2
  | [], G, h => by left; unfold ghF; simp
  | c :: l, G, h => by
    unfold ghF
    split
    · rename_i hr
      right
      have : (cellsP cols c true).length ≤ 2 := by
        unfold cellsP
        split
        · simp
        · split <;> simp
      omega
    · rename_i hr
      rcases ghF_room cols room l (G ++ cellsP cols c true) (by rw [List.length_append]; omega) with e | e
      · left; rw [e, List.flatMap_cons, List.append_assoc]
      · exact .inr e
theorem dim_wid {cols : Nat} : (l : List Bs) → (∀ c ∈ l, c ≠ []) → cols ≠ 1 → ((l.flatMap (fun c => cellsP cols c true)).length : Int) = wsum l
  | [], _, _ => rfl
  | c :: l, h, hc => by
    have ih := dim_wid l (fun d hd => h d (List.mem_cons_of_mem _ hd)) hc
    have e := cells_wid (cols := cols) (c := c) true (h c (List.mem_cons_self ..)) hc
    rw [List.flatMap_cons, List.length_append]
    simp only [wsum, List.map_cons, List.sum_cons] at ih ⊢
    omega
/-- What LayoutDots asks of a ghost's cells. -/
theorem ghost_dots (cols : Nat) (g : Bs) (hc : 2 ≤ cols) :
    if wsum (cuts g) ≤ cols then ((dotF (padP cols (ghostP cols 0 g))).1 : Int) = wsum (cuts g)
    else (dotF (padP cols (ghostP cols 0 g))).2 = true ∧ (cols : Int) - 1 ≤ ((dotF (padP cols (ghostP cols 0 g))).1 : Int) := by
  unfold padP
  rw [dotF_blanks, dotF_dim _ (ghostP_dim _ _ _)]
  unfold ghostP overP
  rw [Nat.sub_zero]
  have hw := dim_wid (cols := cols) (cuts g) (cuts_nz g) (by omega)
  by_cases h : wsum (cuts g) ≤ cols
  · rw [if_pos h, if_neg (by simp; omega)]
    rcases ghF_room cols cols (cuts g) [] (by simp) with e | e
    · rw [e, List.nil_append]; exact hw
    · have := ghF_all (cols := cols) (room := cols) (l := cuts g) (by unfold dimC; omega)
      rw [this]; exact hw
  · rw [if_neg h, if_pos (by simp; omega)]
    refine ⟨by rw [dotF_snoc, if_pos (by rfl)]; show decide (dotsC.s = dotsB) = true; decide, ?_⟩
    have hle := ghF_le cols (cols - 1) (cuts g) [] (by simp)
    rw [List.length_append, List.length_singleton]
    rcases ghF_room cols (cols - 1) (cuts g) [] (by simp) with e | e
    · rw [e, List.nil_append] at hle; omega
    · omega
def ghV (c : Int) (g : Bs) : ViewT := ⟨1, c, [], [], g, [], 0⟩
theorem clamp_id {n hi : Int} (h1 : 1 ≤ n) (h2 : n ≤ hi) : (clampN n hi : Int) = n := by unfold clampN; omega
theorem ghV_of {c : Int} {g : Bs} (h1 : 2 ≤ c) (h2 : c ≤ 120) (hg : (pl g).length ≤ 1200) : (ghV c g).of.rows = [padP c.toNat (ghostP c.toNat 0 (pl g))] ∧ c.toNat = (ghV c g).c := by
  have ec : (ghV c g).c = c.toNat := by
    have := clamp_id (n := c) (hi := 120) (by omega) h2
    show clampN c 120 = _
    omega
  have e1 : (ghV c g).s1 = ⟨[], []⟩ := by
    show foldS _ _ (cuts (plainL [])) = _
    rw [plainL_nil, cuts_nil]; rfl
  have et : (ghV c g).tx = [] := plainL_nil
  have e2 : (ghV c g).s2 = ⟨[], []⟩ := by
    unfold ViewT.s2; rw [e1, et, cuts_nil]; rfl
  have ea : (ghV c g).atEnd = true := by
    unfold ViewT.atEnd ViewT.at'
    rw [et]
    have := back_le [] (ghV c g).at_
    simp at this ⊢; exact this
  have e3 : (ghV c g).s3 = ⟨[], []⟩ := by
    unfold ViewT.s3 fitP
    rw [if_pos ea, e2, ec, if_neg (by simp; omega)]
  have eg : (ghV c g).gh = ghostP c.toNat 0 (pl g) := by
    unfold ViewT.gh
    rw [if_pos ea, ec, e3]
    show ghostP _ _ (plainL g) = _
    unfold plainL
    rw [if_pos hg]; rfl
  have er : ¬ (ghV c g).isR = true := by
    unfold ViewT.isR ViewT.pr
    show ¬ (decide (plainL [] ≠ []) && _) = true
    rw [plainL_nil]; simp
  have ed : (ghV c g).drawn = [padP c.toNat (ghostP c.toNat 0 (pl g))] := by
    unfold ViewT.drawn ViewT.A
    rw [if_neg er, e3, eg, ec]; rfl
  have en : (ghV c g).n = 1 := rfl
  have ecu : (ghV c g).cursor = (0, 0) := by unfold ViewT.cursor; rw [if_pos ea, e3]; rfl
  have etp : (ghV c g).top = 0 := by unfold ViewT.top; rw [ecu, en]; rfl
  refine ⟨?_, ec.symm⟩
  unfold ViewT.of
  rw [etp, ed, en]; rfl
/-! How many rows there are. -/
def wt (c : Bs) : Nat := if wid c = 2 then 3 else 1
def rwt (r : Nat) : Nat := if wof (r : Int) = 2 then 3 else 1
theorem dec_small (l : Bs) (h : (dec l).2 < 3) : (dec l).1 < 2048 ∨ (dec l).1 = 65533 := by
  have h0 := at_lt l 0
  have h1 := at_lt l 1
  unfold dec at h ⊢
  dsimp only at h ⊢
  repeat' split
  all_goals (try (right; rfl))
  all_goals (left; dsimp only; try omega)
  all_goals (simp_all <;> omega)
theorem wof_small {r : Int} (h : r < 2048) : wof r ≠ 2 := by
  unfold wof
  split
  · decide
  · split
    · rename_i h2
      unfold isIn wideL at h2
      simp at h2
      omega
    · decide
theorem rwt_dec (l : Bs) : rwt (dec l).1 ≤ (dec l).2 := by
  unfold rwt
  have hp := dec_pos l
  split
  · rename_i h
    by_cases h3 : (dec l).2 < 3
    · rcases dec_small l h3 with e | e
      · exact absurd h (wof_small (by omega))
      · rw [e] at h; exact absurd h (by decide)
    · omega
  · exact hp
theorem rwt_runes : ∀ (n : Nat) (l : Bs), l.length ≤ n → ((runes l).map rwt).sum ≤ l.length := by
  intro n
  induction n with
  | zero => intro l h; have : l = [] := List.eq_nil_of_length_eq_zero (by omega); subst this; simp [runes_nil]
  | succ n ih =>
    intro l h
    by_cases h0 : l = []
    · subst h0; simp [runes_nil]
    · have hp := dec_pos l
      have hle := dec_le h0
      have := ih (l.drop (dec l).2) (by simp; omega)
      have hw := rwt_dec l
      rw [runes_cons h0, List.map_cons, List.sum_cons]
      simp only [List.length_drop] at this
      omega
theorem rwt_ps (l : Bs) : ((ps l).map rwt).sum ≤ l.length := by
  refine Nat.le_trans ?_ (rwt_runes _ l (Nat.le_refl _))
  unfold ps
  induction runes l with
  | nil => simp
  | cons r rs ih =>
    rw [List.flatMap_cons, List.map_append, List.sum_append, List.map_cons, List.sum_cons]
    have : ((if 0 ≤ fP (r : Int) then [(fP (r : Int)).toNat] else []).map rwt).sum ≤ rwt r := by
      split
      · unfold fP
        split
        · have : rwt 32 = 1 := by decide
          simp only [List.map_cons, List.map_nil, List.sum_cons, List.sum_nil]
          have h2 : (32 : Int).toNat = 32 := rfl
          rw [h2, this]
          unfold rwt; split <;> omega
        · split
          · rename_i h1 h2 h3
            unfold fP at h1; rw [if_neg h2, if_pos h3] at h1; omega
          · simp
      · simp
    omega
theorem wt_enc {r : Nat} (h : Utf8.valid (r : Int) = true) (t : Bs) : wt (enc r ++ t) = rwt r := by
  have e0 : wid (enc r ++ t) = max (wof (r : Int)) 1 := by
    unfold wid; rw [if_neg (by simp [enc_ne h]), dec_enc h]
  unfold wt rwt
  rw [e0]
  rcases wof_cases (r : Int) with e | e | e <;> rw [e] <;> decide
theorem wt_cl (rs : List Nat) : (∀ r ∈ rs, Utf8.valid (r : Int) = true) → ∀ (r0 : Nat), Utf8.valid (r0 : Int) = true → ∀ (t : Bs), ((cl (enc r0 ++ t) (rs.map enc)).map wt).sum ≤ rwt r0 + (rs.map rwt).sum := by
  induction rs with
  | nil =>
    intro _ r0 h0 t
    show ([enc r0 ++ t].map wt).sum ≤ _
    rw [List.map_cons, List.sum_cons, wt_enc h0]; simp
  | cons r rs ih =>
    intro h r0 h0 t
    have hr := h r (List.mem_cons_self ..)
    have hrs := fun x hx => h x (List.mem_cons_of_mem _ hx)
    rw [List.map_cons, cl]
    split
    · rw [List.append_assoc]
      have := ih hrs r0 h0 (t ++ enc r)
      simp only [List.map_cons, List.sum_cons]; omega
    · have := ih hrs r hr []
      rw [List.append_nil] at this
      simp only [List.map_cons, List.sum_cons, wt_enc h0]; omega
theorem wt_cuts (l : Bs) : ((cuts (pl l)).map wt).sum ≤ l.length := by
  refine Nat.le_trans ?_ (rwt_ps l)
  have hv := fun r hr => (ps_ok l r hr).1
  unfold cuts
  rw [(pl_pl l).sg]
  have e : ps (pl l) = ps l := by unfold pl; exact ps_of (ps_ok l)
  rw [e]
  cases hp : ps l with
  | nil => simp [cutP]
  | cons r rs =>
    rw [hp] at hv
    have := wt_cl rs (fun x hx => hv x (List.mem_cons_of_mem _ hx)) r (hv r (List.mem_cons_self ..)) []
    rw [List.append_nil] at this
    simpa [cutP] using this
def pot (S : ShT) : Nat := 2 * S.done.length + min S.cur.length 2
theorem pot_put {cols : Nat} (hc : 2 ≤ cols) (S : ShT) {c : Bs} (hn : c ≠ []) : pot (putP cols S c) ≤ pot S + wt c := by
  have hw := cells_wid (cols := cols) (c := c) false hn (by omega)
  unfold pot putP fitP
  by_cases h : cols < S.cur.length + (cellsP cols c false).length
  · rw [if_pos h]
    unfold ShT.rows
    simp only [List.length_append, List.length_singleton, List.length_nil]
    unfold wt
    rcases wid_one hn with e | e
    · rw [e] at hw ⊢; simp; omega
    · rw [e] at hw ⊢; simp; omega
  · rw [if_neg h]
    simp only [List.length_append]
    unfold wt
    rcases wid_one hn with e | e
    · rw [e] at hw ⊢; simp; omega
    · rw [e] at hw ⊢; simp; omega
theorem pot_fold {cols : Nat} (hc : 2 ≤ cols) : (l : List Bs) → (∀ c ∈ l, c ≠ []) → (S : ShT) → pot (foldS cols S l) ≤ pot S + (l.map wt).sum
  | [], _, S => by show pot S ≤ _; omega
  | c :: l, h, S => by
    have := pot_put hc S (h c (List.mem_cons_self ..))
    have := pot_fold hc l (fun d hd => h d (List.mem_cons_of_mem _ hd)) (putP cols S c)
    have e : foldS cols S (c :: l) = foldS cols (putP cols S c) l := rfl
    rw [e, List.map_cons, List.sum_cons]; omega
theorem plainL_eq {l : Bs} (h : l.length ≤ 300) : plainL l = pl l := by
  have := pl_len l
  unfold plainL
  rw [if_pos (by omega)]
theorem ViewT.rows_le (v : ViewT) (hc : 2 ≤ v.c) (h : v.left.length + v.text.length ≤ 100) : v.drawn.length ≤ 52 := by
  rw [v.drawn_len]
  have h1 := pot_fold hc (cuts (plainL v.left)) (cuts_nz _) ⟨[], []⟩
  have h2 := pot_fold hc (cuts v.tx) (cuts_nz _) v.s1
  have e1 : foldS v.c ⟨[], []⟩ (cuts (plainL v.left)) = v.s1 := rfl
  have e2 : foldS v.c v.s1 (cuts v.tx) = v.s2 := rfl
  have et : v.tx = plainL v.text := rfl
  rw [e1] at h1
  rw [e2] at h2
  have w1 := wt_cuts v.left
  have w2 := wt_cuts v.text
  rw [plainL_eq (by omega)] at h1
  rw [et, plainL_eq (by omega)] at h2
  have h3 : v.s3.done.length ≤ v.s2.done.length + 1 := by
    unfold ViewT.s3 fitP
    split
    · split
      · simp [ShT.rows]
      · omega
    · omega
  have p0 : pot ⟨[], []⟩ = 0 := rfl
  have p2 : 2 * v.s2.done.length ≤ pot v.s2 := by unfold pot; omega
  omega
end Go.Proofs.YtfgjhfmgacopoaaDoor
