import Derived.Test.YtfgjhfmgacopoaaDoorLq3
import Derived.Test.YtfgjhfmgacopoaaDoorLqs
import Derived.Test.YtfgjhfmgacopoaaDoorLo18
namespace Go.Proofs.YtfgjhfmgacopoaaDoor
set_option linter.unusedVariables false
set_option linter.unusedSimpArgs false
open Go.RowKit Go.Shelf
/-! Chapter 18: how long a cell's text may be; contracts in the words of LayoutSame's walk. -/
theorem ghF_sml (cols room : Nat) : (l : List Bs) → (∀ c ∈ l, c.length ≤ 1200) → (G : RowT) → smR G → smR (ghF cols room G l)
  | [], _, G, h => h
  | c :: l, hl, G, h => by
    unfold ghF
    split
    · exact h
    · exact ghF_sml cols room l (fun d hd => hl d (List.mem_cons_of_mem _ hd)) _ (smR_app h (smR_cells _ _ _ (hl c (List.mem_cons_self ..))))
theorem ghostP_sml (cols col : Nat) {g : Bs} (h : g.length ≤ 1200) : smR (ghostP cols col g) := by
  have hc : ∀ c ∈ cuts g, c.length ≤ 1200 := fun c hc => Nat.le_trans (cuts_mem_len hc) h
  unfold ghostP
  split
  · refine smR_app (ghF_sml _ _ _ hc _ (fun c hc => by simp at hc)) (fun c hc => ?_)
    rw [List.mem_singleton] at hc; subst hc; show 3 ≤ 4800; omega
  · exact ghF_sml _ _ _ hc _ (fun c hc => by simp at hc)
theorem rcells_sml (cols : Nat) (l : List Bs) (h : ∀ c ∈ l, c.length ≤ 1200) : smR (rcells cols l) := by
  intro x hx
  unfold rcells at hx
  obtain ⟨c, hc, hm⟩ := List.mem_flatMap.1 hx
  exact smR_cells cols c false (h c hc) x hm
theorem ViewT.all_small (v : ViewT) : ∀ r ∈ v.of.rows, smR r := by
  intro r hr
  have hm := v.of_mem r hr
  have hp : ∀ (x : Bs), ∀ c ∈ cuts (plainL x), c.length ≤ 1200 := fun x c hc => Nat.le_trans (cuts_mem_len hc) (plainL_len x)
  have h1 : v.s1.Sml := fold_sml _ (hp v.left) _ ⟨fun _ h => by simp at h, fun c hc => by simp at hc⟩
  have h2 : v.s2.Sml := fold_sml _ (hp v.text) _ h1
  have h3 : v.s3.Sml := by
    unfold ViewT.s3
    split
    · exact fit_sml h2 1
    · exact h2
  have hg : smR v.gh := by
    unfold ViewT.gh
    split
    · exact ghostP_sml _ _ (plainL_len v.ghost)
    · intro c hc; simp at hc
  have hA : smR v.A := smR_app h3.2 hg
  unfold ViewT.drawn at hm
  split at hm
  · rw [List.mem_singleton] at hm; subst hm
    exact smR_app (smR_app hA (smR_blanks _)) (rcells_sml _ _ (hp v.right))
  · rcases List.mem_append.1 hm with e | e
    · exact h3.1 r e
    · rw [List.mem_singleton] at e; subst e; exact smR_app hA (smR_blanks _)
abbrev frA (A : Option Addr) (n c r k : Nat) : Value := .agg #[.slice A n c, .int .i64 (r : Int), .int .i64 (k : Int)]
theorem Old18_fr (w : World) (L : List RowT) (r k : Nat) (A : Option Addr) (cp : Nat) (vals : List Value) (h : FrG w 0 L (.slice A L.length cp) vals) (h1 : L.length ≤ 60) (h2 : ∀ l ∈ L, l.length ≤ 120) :
    Calls Tryd.prog 21 #[frA A L.length cp r k] w fun e w' => ∃ A' c' vs', e = .returned (frA A' L.length c' r k) ∧ RgO w' L (.slice A' L.length c') vs' ∧ Below w.heap.size w w' := by
  refine (Old18_calls w ⟨L, r, k⟩ _ vals h (by dsimp only; omega) (fun l hl => by have := h2 l hl; omega)).mono ?_
  rintro e w' ⟨v', vs', rfl, R, C, D⟩
  obtain ⟨A', c', hv, _⟩ := R.rd
  subst hv
  exact ⟨A', c', vs', rfl, C.rg R, D⟩
theorem rSame18_fr (w : World) (L M : List RowT) (r k r2 k2 : Nat) (A A2 : Option Addr) (cp cp2 : Nat) (vs us : List Value) (h : RgO w L (.slice A L.length cp) vs) (g : RgO w M (.slice A2 M.length cp2) us) (h1 : L.length ≤ 60) (h2 : ∀ l ∈ L, l.length ≤ 120) (g1 : M.length ≤ 60) (g2 : ∀ l ∈ M, l.length ≤ 120) :
    Calls Tryd.prog 20 #[frA A L.length cp r k, frA A2 M.length cp2 r2 k2] w fun e w' => e = .returned (.bool (eqF ⟨L, r, k⟩ ⟨M, r2, k2⟩)) ∧ Below w.heap.size w w' :=
  rSame18_calls w ⟨L, r, k⟩ ⟨M, r2, k2⟩ _ _ vs us h g (by dsimp only; omega) (by dsimp only; omega) (fun l hl => by have := h2 l hl; omega) (fun l hl => by have := g2 l hl; omega)
theorem Same18_fr (w : World) (L M : List RowT) (r k r2 k2 : Nat) (A A2 : Option Addr) (cp cp2 : Nat) (vs us : List Value) (h : FrG w 0 L (.slice A L.length cp) vs) (g : FrG w 0 M (.slice A2 M.length cp2) us) (h1 : L.length ≤ 60) (h2 : ∀ l ∈ L, l.length ≤ 120) (g1 : M.length ≤ 60) (g2 : ∀ l ∈ M, l.length ≤ 120) :
    Calls Tryd.prog 19 #[frA A L.length cp r k, frA A2 M.length cp2 r2 k2] w fun e w' => e = .returned (.bool (eqF ⟨L, r, k⟩ ⟨M, r2, k2⟩)) ∧ Below w.heap.size w w' :=
  Same_calls18 w ⟨L, r, k⟩ ⟨M, r2, k2⟩ _ _ vs us h g (by dsimp only; omega) (by dsimp only; omega) (fun l hl => by have := h2 l hl; omega) (fun l hl => by have := g2 l hl; omega)
/-- A copy: its rows, the first of which may be written. -/
theorem Copy18_fr (w : World) (L : List RowT) (r k : Nat) (A : Option Addr) (cp : Nat) (vals : List Value) (h : FrG w 0 L (.slice A L.length cp) vals) (h1 : L.length ≤ 60) (h2 : ∀ l ∈ L, l.length ≤ 120) {l0 : RowT} {L' : List RowT} (hL : L = l0 :: L') (h0 : 0 < l0.length) :
    Calls Tryd.prog 18 #[frA A L.length cp r k] w fun e w' => ∃ gc oc cc gx ox cx vs', e = .returned (frA (some ⟨gc, oc, none⟩) L.length cc r k) ∧ FrG w' w.heap.size L (.slice (some ⟨gc, oc, none⟩) L.length cc) vs' ∧
      w'.cell? ⟨gc, oc, none⟩ = some (.slice (some ⟨gx, ox, none⟩) l0.length cx) ∧ w.heap.size ≤ gx ∧ gx < w'.heap.size ∧ Row w' w.heap.size 33 3 (.slice (some ⟨gx, ox, none⟩) l0.length cx) l0.length (flatC l0) ∧
      (∀ j v, vs'[j]? = some v → v.ownBlock = some gx → j = 0) ∧ Below w.heap.size w w' := by
  refine (Copy_calls18 w ⟨L, r, k⟩ _ vals h (by dsimp only; omega) (fun l hl => by have := h2 l hl; omega)).mono ?_
  rintro e w' ⟨v', vs', rfl, R, C, D⟩
  obtain ⟨A', c', hv, _, _, hrd, _⟩ := R.rd
  subst hv
  obtain ⟨vx, hvx⟩ : ∃ x, vs'[0]? = some x := ⟨_, List.getElem?_eq_getElem (by rw [C.len]; dsimp only; rw [hL]; simp)⟩
  have RX := C.row 0 vx l0 hvx (by dsimp only; rw [hL]; rfl)
  obtain ⟨Ax, cx, hx, _⟩ := RX.rd
  subst hx
  obtain ⟨x0, hx0⟩ : ∃ x, l0[0]? = some x := ⟨_, List.getElem?_eq_getElem h0⟩
  obtain ⟨gx, ox, rfl, _⟩ := RX.cell3 rfl hx0
  obtain ⟨gc, oc, ea, hc⟩ := hrd 0 _ hvx
  subst ea
  refine ⟨gc, oc, c', gx, ox, cx, vs', rfl, ⟨R, C.len, C.row⟩, hc, (RX.lt gx rfl).1, (RX.lt gx rfl).2, RX, fun j v hj hb => ?_, D⟩
  exact C.nd j 0 v _ gx hj hvx hb rfl
theorem FrG.zero {w : World} {B : Nat} {L : List RowT} {v : Value} {vals : List Value} (h : FrG w B L v vals) : FrG w 0 L v vals := h.mono (Nat.zero_le _)
theorem RgO.at_row {w : World} {L : List RowT} {A : Option Addr} {n cp : Nat} {vals : List Value} (h : RgO w L (.slice A n cp) vals) {k : Nat} {l : RowT} (hl : L[k]? = some l) :
    ∃ g o A1 c1, A = some ⟨g, o, none⟩ ∧ w.cell? ⟨g, o + k, none⟩ = some (.slice A1 l.length c1) ∧ g < w.heap.size ∧ Row w 0 70 3 (.slice A1 l.length c1) l.length (flatC l) := by
  obtain ⟨vx, hvx⟩ : ∃ x, vals[k]? = some x := ⟨_, List.getElem?_eq_getElem (by rw [h.len]; exact (List.getElem?_eq_some_iff.1 hl).1)⟩
  have RX := h.row k vx l hvx hl
  obtain ⟨A1, c1, hv1, _⟩ := RX.rd
  subst hv1
  obtain ⟨_, _, hv9, _, _, hrd, _⟩ := h.out.rd
  injection hv9 with z1 _ _
  subst z1
  obtain ⟨g, o, ea, hc⟩ := hrd k _ hvx
  subst ea
  exact ⟨g, o, A1, c1, rfl, hc, World.block_lt_of_cell? w _ hc, RX⟩
theorem ViewT.of_facts (v : ViewT) : 1 ≤ v.of.rows.length ∧ v.of.rows.length ≤ 60 ∧ (∀ l ∈ v.of.rows, l.length ≤ 120) ∧ (∀ l ∈ v.of.rows, 1 ≤ l.length) := by
  have h := hasAt_lt v.of_has
  have hc := v.c_range
  refine ⟨by dsimp only at h; omega, by rw [v.of_len]; have := v.n_range; omega, fun l hl => ?_, fun l hl => ?_⟩
  · rw [v.of_cols l hl]; omega
  · rw [v.of_cols l hl]; omega
end Go.Proofs.YtfgjhfmgacopoaaDoor
