import Derived.Test.YtfgjhfmgacopoaaDoorLo9
import Derived.Test.YtfgjhfmgacopoaaDoorRr
import Derived.Deep.CutRange
namespace Go.Proofs.YtfgjhfmgacopoaaDoor
set_option linter.unusedVariables false
set_option linter.unusedSimpArgs false
open Go.RowKit Go.Shelf
/-! Chapter 18: all that is drawn. -/
attribute [local go_sem] Oper.semAt_some
/-- Rows in memory. -/
structure RowsAt (w : World) (B cols : Nat) (L : List RowT) (v : Value) (rs : List Nat) : Prop where
  out : Row w B 31 1 v L.length (rs.map (rowV cols))
  rl : rs.length = L.length
  rows : ∀ (k r : Nat) (l : RowT), rs[k]? = some r → L[k]? = some l → w.heap[r]? = some (.cells (flatC l).toArray 33 (0, 0)) ∧ B ≤ r ∧ l.length = cols
  nd : rs.Nodup
theorem Sht.rowsAt {w : World} {B sb cols : Nat} {L : List RowT} {col : Nat} {v : Value} {rs : List Nat} (h : Sht w B sb cols L col v rs) : RowsAt w B cols L v rs := ⟨h.out, h.rl, h.rows, h.nd⟩
theorem RowsAt.keep {w w' : World} {B cols : Nat} {L : List RowT} {v : Value} {rs : List Nat} (h : RowsAt w B cols L v rs) (hk : CellsKept w w') : RowsAt w' B cols L v rs :=
  ⟨h.out.keep hk, h.rl, fun k r l e f => by
    obtain ⟨x, y, z⟩ := h.rows k r l e f
    exact ⟨hk _ _ _ _ x, y, z⟩, h.nd⟩
theorem RowsAt.later {w w' : World} {B cols : Nat} {L : List RowT} {v : Value} {rs : List Nat} (h : RowsAt w B cols L v rs) (hb : Below w.heap.size w w') : RowsAt w' B cols L v rs :=
  h.keep fun k cs T m e => (hb.block k (lt_of_heap e)).trans e
structure KpX (B : Nat) (X : Nat → Prop) (w w' : World) : Prop where
  bel : Below B w w'
  off : ∀ (k : Nat) (o : Obj), w.heap[k]? = some o → OffS o → ¬ X k → w'.heap[k]? = some o
theorem KpX.refl (B : Nat) (X : Nat → Prop) (w : World) : KpX B X w w := ⟨Below.refl _ _, fun _ _ e _ _ => e⟩
theorem KpX.of {B : Nat} {X : Nat → Prop} {w w' : World} (h : KpS B w w') : KpX B X w w' := ⟨h.bel, fun k o e f _ => h.off k o e f⟩
theorem KpX.trans {B : Nat} {X : Nat → Prop} {u v w : World} (h : KpX B X u v) (k : KpX B X v w) : KpX B X u w := ⟨h.bel.trans k.bel, fun j o e f g => k.off j o (h.off j o e f g) f g⟩
theorem KpX.setCell {B b : Nat} {X : Nat → Prop} {u v : World} (h : KpX B X u v) (hB : B ≤ b) (hX : X b) (i : Nat) (x : Value) : KpX B X u (v.setCell ⟨b, i, none⟩ x) :=
  ⟨h.bel.setCell hB x, fun j o e f g => (heap_setCell_other _ _ _ _ (fun ej => g (by rw [show j = b from ej]; exact hX))).trans (h.off j o e f g)⟩
theorem KpX.own {β : Type} {B base : Nat} {X : Nat → Prop} {w0 : World} (hB : B ≤ base) (hBw : B ≤ w0.heap.size) (h0 : w0.heap.size ≤ base) : OwnFrom base (fun (_ : β) W => KpX B X w0 W) :=
  fun s W W' row hs hg hr => ⟨hs.bel.grown hg (Nat.le_trans hBw hs.bel.size) (fun k e => Nat.le_trans hB (hr k e).1), fun k o e f g => by
    have e' := hs.off k o e f g
    exact (hg.block k (lt_of_heap e') (fun er => by have := (hr k er.symm).1; have := lt_of_heap e; omega)).trans e'⟩
theorem KpX.others {B : Nat} {X : Nat → Prop} {W W' : World} (h : KpX B X W W') (hX : ∀ k, X k → ∃ cs T m, W.heap[k]? = some (.cells cs T m)) : KeepsOthers W W' :=
  ⟨h.bel.size, fun k o e f => h.off k o e (by cases o <;> first | trivial | cases f) (fun hx => by obtain ⟨cs, T, m, e'⟩ := hX k hx; rw [e] at e'; cases e'; cases f)⟩
theorem KpX.toS {B : Nat} {X : Nat → Prop} {w w6 W : World} (h : KpX B X w6 W) (h0 : KpS B w w6) (hX : ∀ k, X k → w.heap.size ≤ k) : KpS B w W :=
  ⟨h0.bel.trans h.bel, fun k o e f => h.off k o (h0.off k o e f) f (fun hx => by have := lt_of_heap e; have := hX k hx; omega)⟩
theorem KpS.others {B : Nat} {W W' : World} (h : KpS B W W') : KeepsOthers W W' := ⟨h.bel.size, fun k o e f => h.off k o e (by cases o <;> first | trivial | cases f)⟩
def ViewT.val (v : ViewT) : Value := .agg #[.int .i64 v.rows, .int .i64 v.cols, str v.left, str v.right, str v.ghost, str v.text, .int .i64 v.at_]
def ViewT.cs (v : ViewT) : Array Value := #[.int .i64 v.rows, .int .i64 v.cols, str v.left, str v.right, str v.ghost, str v.text, .int .i64 v.at_]
def ViewT.small (v : ViewT) : Prop := v.left.length + v.right.length + v.ghost.length + v.text.length ≤ 4000
def ViewAt (w : World) (b : Nat) (v : ViewT) : Prop := w.heap[b]? = some (.cells v.cs 30 (0, 0))
theorem ViewAt.cells {w : World} {b : Nat} {v : ViewT} (h : ViewAt w b v) : w.cell? ⟨b, 0, none⟩ = some (.int .i64 v.rows) ∧ w.cell? ⟨b, 1, none⟩ = some (.int .i64 v.cols) ∧ w.cell? ⟨b, 2, none⟩ = some (str v.left) ∧
    w.cell? ⟨b, 3, none⟩ = some (str v.right) ∧ w.cell? ⟨b, 4, none⟩ = some (str v.ghost) ∧ w.cell? ⟨b, 5, none⟩ = some (str v.text) ∧ w.cell? ⟨b, 6, none⟩ = some (.int .i64 v.at_) := by
  have hb : w.heap[b]? = some (.cells v.cs 30 (0, 0)) := h
  simp [World.cell?, hb, ViewT.cs]
theorem ns_view : NotS 30 := ⟨by decide, by decide, by decide⟩
theorem ns_ptr : NotS 71 := ⟨by decide, by decide, by decide⟩
theorem ns_str : NotS 9 := ⟨by decide, by decide, by decide⟩
theorem plainL_len (l : Bs) : (plainL l).length ≤ 1200 := by
  unfold plainL
  by_cases h : (pl l).length ≤ 1200
  · rw [if_pos h]; exact h
  · rw [if_neg h, List.length_take]
    have : back (pl l) 1200 ≤ 1200 ∨ back (pl l) 1200 ≤ (pl l).length := .inr (back_le _ _)
    have h2 : (back (pl l) 1200 : Int) ≤ 1200 := back_at _ (by omega)
    omega
theorem CellsKept.sha {w w' : World} (hk : CellsKept w w') {B sb cols : Nat} {S : ShT} (h : ShA w B sb cols S) : ShA w' B sb cols S := by
  obtain ⟨v, rs, h, e⟩ := h
  exact ⟨v, rs, h.keep hk, e⟩
theorem ShA.setCell {w : World} {B sb cols : Nat} {S : ShT} (h : ShA w B sb cols S) {g i : Nat} {cs : Array Value} {T : TypeId} {m : Nat × Nat} (hg : w.heap[g]? = some (.cells cs T m)) (hT : NotS T) (u : Value) : ShA (w.setCell ⟨g, i, none⟩ u) B sb cols S := by
  obtain ⟨v, rs, h, e⟩ := h
  exact ⟨v, rs, h.setCell hg hT u, e⟩
/-- What stands in a round of a loop that puts clusters. -/
def ShI {L : Nat} (w0 : World) (B sb cols : Nat) (S : ShT) (pre : List (Cl L)) (W : World) : Prop := ShA W B sb cols (foldS cols S (cls pre)) ∧ KpS B w0 W
theorem KpS.own {β : Type} {B base : Nat} {w0 : World} (hB : B ≤ base) (hBw : B ≤ w0.heap.size) (h0 : w0.heap.size ≤ base) : OwnFrom base (fun (_ : β) W => KpS B w0 W) :=
  fun s W W' row hs hg hr => ⟨hs.bel.grown hg (Nat.le_trans hBw hs.bel.size) (fun k e => Nat.le_trans hB (hr k e).1), fun k o e f => by
    have e' := hs.off k o e f
    exact (hg.block k (lt_of_heap e') (fun er => by have := (hr k er.symm).1; have := lt_of_heap e; omega)).trans e'⟩
theorem shI_own {L base : Nat} {w0 : World} {B sb cols : Nat} {S : ShT} (hB : B ≤ base) (hBw : B ≤ w0.heap.size) (h0 : w0.heap.size ≤ base) : OwnFrom base (fun (pre : List (Cl L)) W => ShI w0 B sb cols S pre W) :=
  fun s W W' row ⟨x, y⟩ hg hr => ⟨(CellsKept.of_grown hg (fun r e => (hr r e).2)).sha x, KpS.own (β := Unit) hB hBw h0 () W W' row y hg hr⟩
theorem foldS_snoc (cols : Nat) (S : ShT) (l : List Bs) (c : Bs) : foldS cols S (l ++ [c]) = putP cols (foldS cols S l) c := by simp [foldS]
theorem put_done (cols : Nat) (S : ShT) (c : Bs) : (putP cols S c).done.length ≤ S.done.length + 1 := by
  unfold putP fitP
  split
  · simp [ShT.rows]
  · simp
theorem fold_done (cols : Nat) : (l : List Bs) → (S : ShT) → (foldS cols S l).done.length ≤ S.done.length + l.length
  | [], S => by simp [foldS]
  | c :: l, S => by
    have h1 := fold_done cols l (putP cols S c)
    have h2 := put_done cols S c
    have e : foldS cols S (c :: l) = foldS cols (putP cols S c) l := rfl
    rw [e, List.length_cons]; omega
/-- Where the cluster stands that begins at a. -/
def curX (cols a : Nat) : ShT → List (Nat × Bs) → Nat × Nat → Nat × Nat
  | _, [], p => p
  | S, x :: l, p => curX cols a (putP cols S x.2) l (if x.1 = a then placeP cols S x.2 else p)
theorem curX_snoc (cols a : Nat) : (l : List (Nat × Bs)) → (S : ShT) → (p : Nat × Nat) → (x : Nat × Bs) → curX cols a S (l ++ [x]) p = if x.1 = a then placeP cols (foldS cols S (l.map Prod.snd)) x.2 else curX cols a S l p
  | [], S, p, x => rfl
  | y :: l, S, p, x => by
    rw [List.cons_append, curX, curX_snoc cols a l, curX]; rfl
theorem curX_ats (cols a : Nat) : (l : List Bs) → (S : ShT) → (k : Nat) → (p : Nat × Nat) → curX cols a S (ats k l) p = curF cols a S k l p
  | [], S, k, p => rfl
  | c :: l, S, k, p => by
    rw [ats, curX, curF, curX_ats cols a l]
def CuI {L : Nat} (w0 : World) (B sb cols a b3 b4 : Nat) (S : ShT) (pre : List (Cl L)) (W : World) : Prop :=
  ShA W B sb cols (foldS cols S (cls pre)) ∧ Boxed W b3 3 (n64 (curX cols a S (val pre) (0, 0)).1) ∧ Boxed W b4 3 (n64 (curX cols a S (val pre) (0, 0)).2) ∧ KpX B (fun k => k = b3 ∨ k = b4) w0 W
theorem cuI_own {L base : Nat} {w0 : World} {B sb cols a b3 b4 : Nat} {S : ShT} (hB : B ≤ base) (hBw : B ≤ w0.heap.size) (h0 : w0.heap.size ≤ base) : OwnFrom base (fun (pre : List (Cl L)) W => CuI w0 B sb cols a b3 b4 S pre W) :=
  fun s W W' row ⟨x, y, z, t⟩ hg hr => by
    have hk := CellsKept.of_grown hg (fun r e => (hr r e).2)
    exact ⟨hk.sha x, hk _ _ _ _ y, hk _ _ _ _ z, KpX.own (β := Unit) hB hBw h0 () W W' row t hg hr⟩
theorem Sht.setCol {w : World} {B sb cols : Nat} {L : List RowT} {col : Nat} {v : Value} {rs : List Nat} (h : Sht w B sb cols L col v rs) (x : Nat) : Sht (w.setCell ⟨sb, 2, none⟩ (n64 x)) B sb cols L x v rs := by
  have b2 := heap_setCell_same _ sb 2 _ _ (n64 x) h.box
  have hmv : ∀ k : Nat, k ≠ sb → (w.setCell ⟨sb, 2, none⟩ (n64 x)).heap[k]? = w.heap[k]? := fun k h1 => heap_setCell_other _ _ _ _ h1
  refine ⟨b2, h.hB, ?_, h.rl, ?_, h.nd⟩
  · exact h.out.at_ fun k hk => hmv k (fun e => h.out.ne_box h.box (by decide) (by rw [← e]; exact hk))
  · intro k r l e1 e2
    obtain ⟨x, y, t⟩ := h.rows k r l e1 e2
    exact ⟨(hmv r (ne_of_types x h.box (by decide))).trans x, y, t⟩
theorem isAgg_int18 (w : World) : (isAgg 3).run Tryd.prog w = .ok false w := by
  unfold isAgg
  rw [Sem.run_bind, run_underlying Tryd.underlying3 w]
  rfl
theorem run_intVar (w : World) (a : Addr) (v : Value) (hc : w.cell? a = some v) : (loadVar 3 a).run Tryd.prog w = .ok v w := by
  unfold loadVar
  rw [Sem.run_bind, isAgg_int18 w]
  simp [go_sem, hc]
theorem results_mix {fn : Func} {a b c d : Tmp} {t u : TypeId} (h : fn.results = #[.tmp a, .cell b t, .cell c u, .tmp d]) {tmps : Array Value} {P : Program} {w : World} {A1 A2 : Addr} {x y : Value} (ha : tmps.getD b undef = .pointer (some A1)) (hb : tmps.getD c undef = .pointer (some A2))
    (hx : (loadVar t A1).run P w = .ok x w) (hy : (loadVar u A2).run P w = .ok y w) : (results fn tmps).run P w = .ok (.tuple #[tmps.getD a undef, x, y, tmps.getD d undef]) w := by
  simp only [results, h]
  have ha' : tmps[b]?.getD undef = .pointer (some A1) := by simpa using ha
  have hb' : tmps[c]?.getD undef = .pointer (some A2) := by simpa using hb
  simp [ha', hb', asAddr, hx, hy]
theorem Sht.idx0 {W : World} {B sb cols : Nat} {row : RowT} {col : Nat} {g o cp r : Nat} {rs : List Nat} (h : Sht W B sb cols [row] col (.slice (some ⟨g, o, none⟩) 1 cp) rs) (e0 : rs[0]? = some r) : W.cell? ⟨g, o, none⟩ = some (rowV cols r) := by
  obtain ⟨A9, c9, hv9, -, -, hrd9, -⟩ := h.out.rd
  obtain ⟨g9, o9, ea, hc⟩ := hrd9 0 (rowV cols r) (by rw [List.getElem?_map, e0]; rfl)
  subst ea
  injection hv9 with h1 h2 h3
  injection h1 with h1
  injection h1 with h1 h4
  subst h1 h4
  exact hc
/-- What has come up in the region that copies a right prompt's cluster, the frame, and the world. -/
structure R29 (W : World) (b8 b20 r0 : Nat) (X : Array Value) (xs : Value) (y k : Nat) (cs : RowT) (vals : Nat → List Value) (listed : Array Bool) (a : Act) (w : World) : Prop where
  sz : a.tmps.size = 168
  e8 : a.tmps[8]?.getD undef = bptr b8
  e20 : a.tmps[20]?.getD undef = bptr b20
  e22 : a.tmps[22]?.getD undef = xs
  ex : ∃ (bq : Nat) (w7 : World), (∀ (j : Nat) (u : Value), (vals bq)[j]? = some u → listed.getD j true = true → a.tmps[147 + j]?.getD undef = u) ∧
    ((listed.getD 11 true = false ∧ w = W.drew) ∨ (listed.getD 11 true = true ∧ Below W.heap.size W w7 ∧ w7.heap[bq]? = some (.cells (flatC cs).toArray 33 (0, 0)) ∧
      ((listed.getD 12 true = false ∧ listed.getD 14 true = false ∧ w = w7) ∨ (listed.getD 12 true = true ∧ listed.getD 14 true = false ∧ w = w7.setRow r0 X) ∨ (listed.getD 14 true = true ∧ w = (w7.setRow r0 X).setCell ⟨b20, 0, none⟩ (n64 (y + k))))))
theorem R29.put {W : World} {b8 b20 r0 : Nat} {X : Array Value} {xs : Value} {y k : Nat} {cs : RowT} {vals : Nat → List Value} {listed : Array Bool} {a : Act} {w : World} (h : R29 W b8 b20 r0 X xs y k cs vals listed a w) {i : Nat} (hu : listed.getD i true = false) (hi : i < 14) (h11 : i ≠ 11) (h12 : i ≠ 12)
    {v : Value} (hv : ∀ bq, (vals bq)[i]? = some v) : R29 W b8 b20 r0 X xs y k cs vals (listed.setIfInBounds i true) (a.put (some (147 + i)) v) w := by
  have hd : 147 + i < a.tmps.size := by rw [h.sz]; omega
  obtain ⟨bq, w7, hval, hph⟩ := h.ex
  refine ⟨by simp [Act.put, h.sz], by rw [tmp_put hd, if_neg (by omega)]; exact h.e8, by rw [tmp_put hd, if_neg (by omega)]; exact h.e20, by rw [tmp_put hd, if_neg (by omega)]; exact h.e22, bq, w7, fun j u hj hl => ?_, ?_⟩
  · rw [tmp_put hd]
    by_cases hji : j = i
    · subst hji
      rw [if_pos rfl]
      rw [hv bq] at hj; cases hj; rfl
    · rw [if_neg (by omega)]
      rw [getD_set hu, if_neg hji] at hl
      exact hval j u hj hl
  · rw [getD_set hu, getD_set hu, getD_set hu, if_neg (Ne.symm h11), if_neg (Ne.symm h12), if_neg (by omega)]
    exact hph
theorem R29.call {W : World} {b8 b20 r0 : Nat} {X : Array Value} {xs : Value} {y k : Nat} {cs : RowT} {vals : Nat → List Value} {listed : Array Bool} {a : Act} {w w7 : World} {bq : Nat} {v : Value} (h : R29 W b8 b20 r0 X xs y k cs vals listed a w) (hu : listed.getD 11 true = false) (h12 : listed.getD 12 true = false) (h14 : listed.getD 14 true = false)
    (b7 : Below W.heap.size W w7) (hcb : w7.heap[bq]? = some (.cells (flatC cs).toArray 33 (0, 0))) (hvq : (vals bq)[11]? = some v) (hv : ∀ b b' j, j ≠ 11 → (vals b)[j]? = (vals b')[j]?) :
    R29 W b8 b20 r0 X xs y k cs vals (listed.setIfInBounds 11 true) (a.put (some 158) v) w7 := by
  have hd : 158 < a.tmps.size := by rw [h.sz]; omega
  obtain ⟨bz, wz, hval, hph⟩ := h.ex
  refine ⟨by simp [Act.put, h.sz], by rw [tmp_put hd, if_neg (by omega)]; exact h.e8, by rw [tmp_put hd, if_neg (by omega)]; exact h.e20, by rw [tmp_put hd, if_neg (by omega)]; exact h.e22, bq, w7, fun j u hj hl => ?_, .inr ⟨by rw [getD_set hu, if_pos rfl], b7, hcb, .inl ⟨by rw [getD_set hu, if_neg (by omega)]; exact h12, by rw [getD_set hu, if_neg (by omega)]; exact h14, rfl⟩⟩⟩
  rw [tmp_put hd]
  by_cases hji : j = 11
  · subst hji
    rw [if_pos rfl]
    rw [hvq] at hj; cases hj; rfl
  · rw [if_neg (by omega)]
    rw [getD_set hu, if_neg hji] at hl
    exact hval j u ((hv bz bq j hji).trans hj) hl
theorem R29.copy {W : World} {b8 b20 r0 : Nat} {X : Array Value} {xs : Value} {y k : Nat} {cs : RowT} {vals : Nat → List Value} {listed : Array Bool} {a : Act} {w : World} {v : Value} (h : R29 W b8 b20 r0 X xs y k cs vals listed a w) (hu : listed.getD 12 true = false) (l11 : listed.getD 11 true = true) (h14 : listed.getD 14 true = false)
    (hv : ∀ bq, (vals bq)[12]? = some v) : R29 W b8 b20 r0 X xs y k cs vals (listed.setIfInBounds 12 true) (a.put (some 159) v) (w.setRow r0 X) := by
  have hd : 159 < a.tmps.size := by rw [h.sz]; omega
  obtain ⟨bq, w7, hval, hph⟩ := h.ex
  have hw : Below W.heap.size W w7 ∧ w7.heap[bq]? = some (.cells (flatC cs).toArray 33 (0, 0)) ∧ w = w7 := by
    rcases hph with ⟨h, _⟩ | ⟨_, b7, hq, (⟨_, _, e⟩ | ⟨h, _⟩ | ⟨h, _⟩)⟩
    · rw [l11] at h; cases h
    · exact ⟨b7, hq, e⟩
    · rw [hu] at h; cases h
    · rw [h14] at h; cases h
  obtain ⟨b7, hq, rfl⟩ := hw
  refine ⟨by simp [Act.put, h.sz], by rw [tmp_put hd, if_neg (by omega)]; exact h.e8, by rw [tmp_put hd, if_neg (by omega)]; exact h.e20, by rw [tmp_put hd, if_neg (by omega)]; exact h.e22, bq, w, fun j u hj hl => ?_, .inr ⟨by rw [getD_set hu, if_neg (by omega)]; exact l11, b7, hq, .inr (.inl ⟨by rw [getD_set hu, if_pos rfl], by rw [getD_set hu, if_neg (by omega)]; exact h14, rfl⟩)⟩⟩
  rw [tmp_put hd]
  by_cases hji : j = 12
  · subst hji
    rw [if_pos rfl]
    rw [hv bq] at hj; cases hj; rfl
  · rw [if_neg (by omega)]
    rw [getD_set hu, if_neg hji] at hl
    exact hval j u hj hl
theorem R29.store {W : World} {b8 b20 r0 : Nat} {X : Array Value} {xs : Value} {y k : Nat} {cs : RowT} {vals : Nat → List Value} {listed : Array Bool} {a : Act} {w : World} {v : Value} (h : R29 W b8 b20 r0 X xs y k cs vals listed a w) (hu : listed.getD 14 true = false) (l11 : listed.getD 11 true = true) (l12 : listed.getD 12 true = true) (hvl : ∀ bq, (vals bq).length ≤ 14) :
    R29 W b8 b20 r0 X xs y k cs vals (listed.setIfInBounds 14 true) (a.put none v) (w.setCell ⟨b20, 0, none⟩ (n64 (y + k))) := by
  obtain ⟨bq, w7, hval, hph⟩ := h.ex
  have hw : Below W.heap.size W w7 ∧ w7.heap[bq]? = some (.cells (flatC cs).toArray 33 (0, 0)) ∧ w = w7.setRow r0 X := by
    rcases hph with ⟨h, _⟩ | ⟨_, b7, hq, (⟨h, _⟩ | ⟨_, _, e⟩ | ⟨h, _⟩)⟩
    · rw [l11] at h; cases h
    · rw [l12] at h; cases h
    · exact ⟨b7, hq, e⟩
    · rw [hu] at h; cases h
  obtain ⟨b7, hq, rfl⟩ := hw
  refine ⟨h.sz, h.e8, h.e20, h.e22, bq, w7, fun j u hj hl => ?_, .inr ⟨by rw [getD_set hu, if_neg (by omega)]; exact l11, b7, hq, .inr (.inr ⟨by rw [getD_set hu, if_pos rfl], rfl⟩)⟩⟩
  have hj14 := (List.getElem?_eq_some_iff.1 hj).1
  have := hvl bq
  rw [getD_set hu, if_neg (by omega)] at hl
  exact hval j u hj hl
/-- What stands behind the ghost. -/
structure DwS (w wx : World) (B sb c b1 b3 b4 b8 D1 D2 : Nat) (v : ViewT) (L : List RowT) (col : Nat) (p : Nat × Nat) : Prop where
  sh : ∃ vv rs, Sht wx B sb c L col vv rs
  x3 : Boxed wx b3 3 (n64 p.1)
  x4 : Boxed wx b4 3 (n64 p.2)
  x8 : Boxed wx b8 71 (sptr sb)
  vw : ViewAt wx b1 v
  k1 : wx.heap[D1]? = some (.deferred (some []))
  k2 : wx.heap[D2]? = some (.deferred (some []))
  bel : Below B w wx
theorem DwS.move {w wx wy : World} {B sb c b1 b3 b4 b8 D1 D2 : Nat} {v : ViewT} {L L' : List RowT} {col col' : Nat} {p : Nat × Nat} (h : DwS w wx B sb c b1 b3 b4 b8 D1 D2 v L col p) (hk : KpS B wx wy) (hs : ∃ vv rs, Sht wy B sb c L' col' vv rs) : DwS w wy B sb c b1 b3 b4 b8 D1 D2 v L' col' p :=
  ⟨hs, hk.off _ _ h.x3 ns_int, hk.off _ _ h.x4 ns_int, hk.off _ _ h.x8 ns_ptr, hk.off _ _ h.vw ns_view, hk.off _ _ h.k1 trivial, hk.off _ _ h.k2 trivial, h.bel.trans hk.bel⟩
theorem DwS.later {w wx wy : World} {B sb c b1 b3 b4 b8 D1 D2 : Nat} {v : ViewT} {L : List RowT} {col : Nat} {p : Nat × Nat} (h : DwS w wx B sb c b1 b3 b4 b8 D1 D2 v L col p) (hb : Below wx.heap.size wx wy) (hB : B ≤ wx.heap.size) : DwS w wy B sb c b1 b3 b4 b8 D1 D2 v L col p := by
  obtain ⟨vv, rs, hs⟩ := h.sh
  exact h.move (.of_below hb hB) ⟨vv, rs, hs.later hb⟩
theorem Sht.store2 {w wc : World} {B sb c b1 b3 b4 b8 D1 D2 : Nat} {v : ViewT} {L L' : List RowT} {col col' : Nat} {p q : Nat × Nat} {vv : Value} {rs : List Nat} (h : DwS w wc B sb c b1 b3 b4 b8 D1 D2 v L col p) (hs : Sht wc B sb c L' col' vv rs) (n34 : b3 ≠ b4) :
    Sht ((wc.setCell ⟨b3, 0, none⟩ (n64 q.1)).setCell ⟨b4, 0, none⟩ (n64 q.2)).drew B sb c L' col' vv rs :=
  ((hs.setCell (i := 0) h.x3 ns_int (n64 q.1)).setCell (i := 0) (h.x4.other (fun e => n34 e.symm) _) ns_int (n64 q.2)).keep fun _ _ _ _ e => e
theorem DwS.store2 {w wc : World} {B sb c b1 b3 b4 b8 D1 D2 : Nat} {v : ViewT} {L : List RowT} {col : Nat} {p q : Nat × Nat} (h : DwS w wc B sb c b1 b3 b4 b8 D1 D2 v L col p) (n34 : b3 ≠ b4) (hB3 : B ≤ b3) (hB4 : B ≤ b4) :
    DwS w ((wc.setCell ⟨b3, 0, none⟩ (n64 q.1)).setCell ⟨b4, 0, none⟩ (n64 q.2)).drew B sb c b1 b3 b4 b8 D1 D2 v L col q := by
  have nd : ∀ D : Nat, wc.heap[D]? = some (.deferred (some [])) → D ≠ b3 ∧ D ≠ b4 := fun D hD => ⟨fun e => (by rw [e, show wc.heap[b3]? = _ from h.x3] at hD; cases hD), fun e => (by rw [e, show wc.heap[b4]? = _ from h.x4] at hD; cases hD)⟩
  have hoth : ∀ k : Nat, k ≠ b3 → k ≠ b4 → ((wc.setCell ⟨b3, 0, none⟩ (n64 q.1)).setCell ⟨b4, 0, none⟩ (n64 q.2)).drew.heap[k]? = wc.heap[k]? := fun k k3 k4 =>
    (heap_setCell_other _ _ _ _ k4).trans (heap_setCell_other _ _ _ _ k3)
  have g4 : Boxed (wc.setCell ⟨b3, 0, none⟩ (n64 q.1)) b4 3 (n64 p.2) := h.x4.other (fun e => n34 e.symm) _
  obtain ⟨vv, rs, hs⟩ := h.sh
  exact ⟨⟨vv, rs, Sht.store2 h hs n34⟩, (h.x3.set _).other n34 _, g4.set _, (hoth _ (ne_of_types h.x8 h.x3 (by decide)) (ne_of_types h.x8 h.x4 (by decide))).trans h.x8, (hoth _ (ne_of_types h.vw h.x3 (by decide)) (ne_of_types h.vw h.x4 (by decide))).trans h.vw,
    (hoth _ (nd _ h.k1).1 (nd _ h.k1).2).trans h.k1, (hoth _ (nd _ h.k2).1 (nd _ h.k2).2).trans h.k2, ((h.bel.setCell (p := ⟨b3, 0, none⟩) hB3 _).setCell (p := ⟨b4, 0, none⟩) hB4 _).drew⟩
theorem DwS.mark {w wx : World} {B sb c b1 b3 b4 b8 D1 D2 D3 : Nat} {v : ViewT} {L : List RowT} {col : Nat} {p : Nat × Nat} (h : DwS w wx B sb c b1 b3 b4 b8 D1 D2 v L col p) (h3 : wx.heap[D3]? = some (.deferred (some []))) (n1 : D1 ≠ D3) (n2 : D2 ≠ D3) (hB : B ≤ D3) (hBx : B ≤ wx.heap.size) :
    DwS w (wx.putObj D3 (.deferred none)) B sb c b1 b3 b4 b8 D1 D2 v L col p := by
  have e := CellsKept.putObj (.deferred none) h3 rfl
  obtain ⟨vv, rs, hs⟩ := h.sh
  exact ⟨⟨vv, rs, hs.keep e⟩, e _ _ _ _ h.x3, e _ _ _ _ h.x4, e _ _ _ _ h.x8, e _ _ _ _ h.vw, (World.putObj_heap_other n1).trans h.k1, (World.putObj_heap_other n2).trans h.k2, h.bel.grown (grownBy_putObj' wx D3 (.deferred none)) hBx (fun k e => by cases e; exact hB)⟩
/-- The marks are taken. -/
theorem DwS.fin {w wc : World} {B sb c b1 b3 b4 b8 D1 D2 : Nat} {v : ViewT} {L : List RowT} {col : Nat} {p : Nat × Nat} {L' : List RowT} {col' : Nat} {vv : Value} {rs : List Nat} (h : DwS w wc B sb c b1 b3 b4 b8 D1 D2 v L col p) (hs : Sht wc B sb c L' col' vv rs) (hDD : D1 ≠ D2) (hD1 : B ≤ D1) (hD2 : B ≤ D2) (hB : B ≤ wc.heap.size) :
    (wc.putObj D2 (.deferred none)).heap[D1]? = some (.deferred (some [])) ∧ ((wc.putObj D2 (.deferred none)).putObj D1 (.deferred none)).cell? ⟨b3, 0, none⟩ = some (n64 p.1) ∧ ((wc.putObj D2 (.deferred none)).putObj D1 (.deferred none)).cell? ⟨b4, 0, none⟩ = some (n64 p.2) ∧
      RowsAt ((wc.putObj D2 (.deferred none)).putObj D1 (.deferred none)) B c L' vv rs ∧ Below B w ((wc.putObj D2 (.deferred none)).putObj D1 (.deferred none)) := by
  have k1 : (wc.putObj D2 (.deferred none)).heap[D1]? = some (.deferred (some [])) := (World.putObj_heap_other hDD).trans h.k1
  have e1 := CellsKept.putObj (.deferred none) h.k2 rfl
  have e2 := CellsKept.putObj (W := wc.putObj D2 (.deferred none)) (.deferred none) k1 rfl
  exact ⟨k1, Boxed.cell (t := 3) (e2 _ _ _ _ (e1 _ _ _ _ h.x3)), Boxed.cell (t := 3) (e2 _ _ _ _ (e1 _ _ _ _ h.x4)), (hs.rowsAt.keep e1).keep e2,
    (h.bel.grown (grownBy_putObj' wc D2 (.deferred none)) hB (fun k e => by cases e; exact hD2)).grown (grownBy_putObj' _ D1 (.deferred none)) (by simpa using hB) (fun k e => by cases e; exact hD1)⟩
/-- A right prompt's cells, one cluster behind the other, as far as there is room. -/
def rgX (cols : Nat) : Nat × RowT → List Bs → Nat × RowT
  | q, [] => q
  | q, c :: l => rgX cols (q.1 + min (cellsP cols c false).length (cols - q.1), splice q.2 q.1 ((cellsP cols c false).take (cols - q.1))) l
theorem rgX_snoc (cols : Nat) : (l : List Bs) → (q : Nat × RowT) → (c : Bs) → rgX cols q (l ++ [c]) = ((rgX cols q l).1 + min (cellsP cols c false).length (cols - (rgX cols q l).1), splice (rgX cols q l).2 (rgX cols q l).1 ((cellsP cols c false).take (cols - (rgX cols q l).1)))
  | [], q, c => rfl
  | d :: l, q, c => by rw [List.cons_append, rgX, rgX_snoc cols l]; rfl
theorem splice_len {α : Type} {l cs : List α} {x : Nat} (h : x + cs.length ≤ l.length) : (splice l x cs).length = l.length := by
  unfold splice
  simp only [List.length_append, List.length_take, List.length_drop]
  omega
theorem rgX_len (cols : Nat) : (l : List Bs) → (q : Nat × RowT) → q.1 ≤ cols → q.2.length = cols → (rgX cols q l).1 ≤ cols ∧ (rgX cols q l).2.length = cols
  | [], q, h1, h2 => ⟨h1, h2⟩
  | c :: l, q, h1, h2 => by
    rw [rgX]
    refine rgX_len cols l _ ?_ ?_
    · dsimp only; omega
    · dsimp only
      rw [splice_len (by rw [List.length_take, h2]; omega), h2]
theorem splice_app {α : Type} {P Q R cs : List α} (h : cs.length = Q.length) : splice (P ++ (Q ++ R)) P.length cs = P ++ (cs ++ R) := by
  unfold splice
  rw [List.take_left', List.drop_append, List.drop_eq_nil_of_le (by omega), List.nil_append, h]
  · congr 2
    have e : P.length + Q.length - P.length = Q.length := by omega
    rw [e, List.drop_left']
    rfl
  · rfl
theorem rgX_all {cols : Nat} : (l : List Bs) → (P Z : RowT) → P.length + (rcells cols l).length = cols → Z.length = (rcells cols l).length → rgX cols (P.length, P ++ Z) l = (cols, P ++ rcells cols l)
  | [], P, Z, h, hZ => by
    have hz : Z = [] := List.eq_nil_of_length_eq_zero (by simpa [rcells] using hZ)
    subst hz
    have hp : P.length = cols := by simpa [rcells] using h
    simp [rgX, rcells, hp]
  | c :: l, P, Z, h, hZ => by
    have e : rcells cols (c :: l) = cellsP cols c false ++ rcells cols l := by simp [rcells]
    rw [e, List.length_append] at h hZ
    obtain ⟨m, hm⟩ : ∃ m, m = (cellsP cols c false).length := ⟨_, rfl⟩
    have hZ2 : Z = Z.take m ++ Z.drop m := (List.take_append_drop m Z).symm
    rw [rgX, List.take_of_length_le (by omega), Nat.min_eq_left (by omega)]
    have e2 : splice (P ++ Z) P.length (cellsP cols c false) = P ++ (cellsP cols c false ++ Z.drop m) := by
      conv => lhs; rw [hZ2]
      exact splice_app (by rw [List.length_take]; omega)
    dsimp only
    rw [e2, ← List.append_assoc, show P.length + (cellsP cols c false).length = (P ++ cellsP cols c false).length by simp, rgX_all l (P ++ cellsP cols c false) (Z.drop m) (by rw [List.length_append]; omega) (by rw [List.length_drop]; omega), e, List.append_assoc]
theorem rgX_right {c : Nat} {A : RowT} {l : List Bs} (h : A.length + 1 + (rcells c l).length ≤ c) : rgX c (c - (rcells c l).length, padP c A) l = (c, rightP c A (rcells c l)) := by
  obtain ⟨R, hR⟩ : ∃ R, R = (rcells c l).length := ⟨_, rfl⟩
  have e : padP c A = (A ++ blanks (c - A.length - R)) ++ blanks R := by
    unfold padP
    rw [List.append_assoc, blanks_app]
    congr 2; omega
  have e2 : (A ++ blanks (c - A.length - R)).length = c - R := by rw [List.length_append, blanks_len]; omega
  rw [← hR, e, ← e2, rgX_all l _ _ (by rw [e2, ← hR]; omega) (by rw [blanks_len, hR])]
  unfold rightP
  rw [← hR]
def RgI {L : Nat} (w0 : World) (B sb cols col b20 : Nat) (vv : Value) (rs : List Nat) (q : Nat × RowT) (pre : List (Cl L)) (W : World) : Prop :=
  Sht W B sb cols [(rgX cols q (cls pre)).2] col vv rs ∧ Boxed W b20 3 (n64 (rgX cols q (cls pre)).1) ∧ KpX B (fun k => k = b20) w0 W
theorem rgI_own {L base : Nat} {w0 : World} {B sb cols col b20 : Nat} {vv : Value} {rs : List Nat} {q : Nat × RowT} (hB : B ≤ base) (hBw : B ≤ w0.heap.size) (h0 : w0.heap.size ≤ base) : OwnFrom base (fun (pre : List (Cl L)) W => RgI w0 B sb cols col b20 vv rs q pre W) :=
  fun s W W' row ⟨x, y, t⟩ hg hr => by
    have hk := CellsKept.of_grown hg (fun r e => (hr r e).2)
    exact ⟨x.keep hk, hk _ _ _ _ y, KpX.own (β := Unit) hB hBw h0 () W W' row t hg hr⟩
/-- One row of a sheet is another one. -/
theorem Sht.row1 {W Y : World} {B sb cols : Nat} {row row' : RowT} {col : Nat} {v : Value} {r : Nat} {rs : List Nat} (h : Sht W B sb cols [row] col v rs) (hr : rs[0]? = some r) (hl : row'.length = cols) (hY : Y.heap = W.heap) (hb : Below B W Y) :
    Sht (Y.setRow r (flatC row').toArray) B sb cols [row'] col v rs ∧ KpS B W (Y.setRow r (flatC row').toArray) := by
  obtain ⟨p, q, z⟩ := h.rows 0 r _ hr rfl
  have pY : Y.heap[r]? = _ := (by rw [hY] : Y.heap[r]? = W.heap[r]?).trans p
  have bY : Y.heap[sb]? = _ := (by rw [hY] : Y.heap[sb]? = W.heap[sb]?).trans h.box
  have hne : r ≠ sb := ne_of_types p h.box (by decide)
  have g1 := setRow_heap Y r _ (flatC row').toArray _ _ pY
  have b1 : (Y.setRow r (flatC row').toArray).heap[sb]? = _ := (setRow_other _ _ _ _ (fun e => hne e.symm)).trans bY
  have hmv : ∀ k : Nat, k ≠ r → (Y.setRow r (flatC row').toArray).heap[k]? = W.heap[k]? := fun k h2 => by rw [setRow_other _ _ _ _ h2, hY]
  refine ⟨⟨b1, h.hB, ?_, h.rl, ?_, h.nd⟩, ?_⟩
  · exact h.out.at_ fun k hk => hmv k (fun e => h.out.ne_box p (by decide) (by rw [← e]; exact hk))
  · intro k r' l e1 e2
    have hk : k = 0 := by
      have := (List.getElem?_eq_some_iff.1 e2).1
      simp at this; omega
    subst hk
    rw [hr] at e1
    cases e1
    simp at e2
    subst e2
    exact ⟨g1, q, hl⟩
  · exact (⟨hb, fun k o e _ => by rw [hY]; exact e⟩ : KpS B W Y).setRow pY ns_cell q _
set_option maxHeartbeats 4000000 in
set_option maxRecDepth 100000 in
theorem drawn_calls (v : ViewT) (hv : v.small) (w : World) (hU : U8 w) :
    Calls Tryd.prog 24 #[v.val] w fun e w' => ∃ vv rs, e = .returned (.tuple #[vv, n64 v.cursor.1, n64 v.cursor.2, .bool v.isR]) ∧ RowsAt w' w.heap.size v.c v.drawn vv rs ∧ Below w.heap.size w w' := by
  have hc := v.c_range
  obtain ⟨c, hcc⟩ : ∃ c, c = v.c := ⟨_, rfl⟩
  have NW := Lib.hid (fun W => New_calls v.rows v.cols W)
  rw [show clampN v.cols 120 = c from hcc.symm] at NW
  rw [← hcc] at hc
  have HC := Lib.hid hcc
  clear hcc
  refine (callsIn_wide (n := 9)).1 ?_
  unfold ViewT.val
  refine callsIn_of_wp_marks Tryd.func24 rfl trivial ?_ rfl
  simp only [Tryd.ntmps24, List.size_toArray, List.length_cons, List.length_nil, Nat.reduceAdd, Nat.reduceSub, Array.replicate_succ, Array.replicate_zero, List.push_toArray, List.append_toArray, List.nil_append, List.cons_append]
  refine wpIn_wide.2 ?_
  go_wp2_with fail
  obtain ⟨W0, hW0⟩ : ∃ W0, W0 = ((w.alloc (.cells #[.int .i64 v.rows, .int .i64 v.cols, str v.left, str v.right, str v.ghost, str v.text, .int .i64 v.at_] 30)).alloc (.cells #[.int .i64 0] 3)).alloc (.cells #[.int .i64 0] 3) := ⟨_, rfl⟩
  obtain ⟨b1, hb1⟩ : ∃ b, b = w.heap.size := ⟨_, rfl⟩
  obtain ⟨b3, hb3⟩ : ∃ b, b = w.heap.size + 1 := ⟨_, rfl⟩
  obtain ⟨b4, hb4⟩ : ∃ b, b = w.heap.size + 1 + 1 := ⟨_, rfl⟩
  have V0 : ViewAt W0 b1 v := by
    rw [hW0, hb1]
    have h0 : ViewAt (w.alloc (.cells #[.int .i64 v.rows, .int .i64 v.cols, str v.left, str v.right, str v.ghost, str v.text, .int .i64 v.at_] 30)) w.heap.size v := heap_alloc_new w _
    exact (Below.heap_alloc _ _ _ (by simp; omega)).trans ((Below.heap_alloc _ _ _ (by simp)).trans h0)
  have X3 : Boxed W0 b3 3 (.int .i64 0) := by
    rw [hW0, hb3]
    have := Boxed.new (w.alloc (.cells #[.int .i64 v.rows, .int .i64 v.cols, str v.left, str v.right, str v.ghost, str v.text, .int .i64 v.at_] 30)) 3 (.int .i64 0)
    rw [World.size_alloc] at this
    exact this.alloc _
  have X4 : Boxed W0 b4 3 (.int .i64 0) := by
    rw [hW0, hb4]
    have := Boxed.new ((w.alloc (.cells #[.int .i64 v.rows, .int .i64 v.cols, str v.left, str v.right, str v.ghost, str v.text, .int .i64 v.at_] 30)).alloc (.cells #[.int .i64 0] 3)) 3 (.int .i64 0)
    rw [World.size_alloc, World.size_alloc] at this
    exact this
  have B0 : Below w.heap.size w W0 := by rw [hW0]; exact (((Below.refl _ w).alloc (Nat.le_refl _) _).alloc (by simp) _).alloc (by simp; omega) _
  rw [← hW0, ← hb4, ← hb3]
  obtain ⟨B, hB⟩ : ∃ B, B = w.heap.size := ⟨_, rfl⟩
  rw [show w.heap.size = b1 from hb1.symm]
  rw [← hB] at hb1 hb3 hb4 B0
  have Q1 := Lib.hid hb1
  have Q3 := Lib.hid hb3
  have Q4 := Lib.hid hb4
  have HB := Lib.hid hB
  have hbw : B ≤ W0.heap.size := by rw [hB]; exact B0.size
  clear hW0 hb1 hb3 hb4 hB
  obtain ⟨v0, v1, -, -, -, -, -⟩ := V0.cells
  go_wp2_with fail
  refine (NW.out _).mono ?_
  rintro e w1 ⟨tb, A, cp, rfl, -, T1, D1⟩
  go_wp2_with fail
  refine (Size_calls T1).mono ?_
  rintro e w2 ⟨rfl, D2⟩
  have D2 := D1.trans (D2.mono D1.size)
  have V2 : ViewAt w2 b1 v := (D2.block _ (lt_of_heap V0)).trans V0
  have Y3 : Boxed w2 b3 3 (.int .i64 0) := (D2.block _ X3.lt).trans X3
  have Y4 : Boxed w2 b4 3 (.int .i64 0) := (D2.block _ X4.lt).trans X4
  have B2 : Below B w w2 := B0.trans (D2.mono hbw)
  have U2 : U8 w2 := hU.later (by rw [← HB.out]; exact B2)
  clear V0 X3 X4 B0 D1 D2 T1 v0 v1 hbw NW
  go_wp2_with fail
  obtain ⟨W3, hW3⟩ : ∃ W3, W3 = (w2.alloc (.cells #[n64 c, .slice none 0 0, .int .i64 0] 73)).alloc (.cells #[.pointer (some ⟨w2.heap.size, 0, none⟩)] 71) := ⟨_, rfl⟩
  obtain ⟨sb, hsb⟩ : ∃ b, b = w2.heap.size := ⟨_, rfl⟩
  obtain ⟨b8, hb8⟩ : ∃ b, b = w2.heap.size + 1 := ⟨_, rfl⟩
  have D3 : Below w2.heap.size w2 W3 := by rw [hW3]; exact ((Below.refl _ w2).alloc (Nat.le_refl _) _).alloc (by simp) _
  have X8 : Boxed W3 b8 71 (sptr sb) := by
    rw [hW3, hb8, hsb]
    have := Boxed.new (w2.alloc (.cells #[n64 c, .slice none 0 0, .int .i64 0] 73)) 71 (.pointer (some ⟨w2.heap.size, 0, none⟩))
    rw [World.size_alloc] at this
    exact this
  have SB : W3.heap[sb]? = some (.cells #[n64 c, .slice none 0 0, n64 0] 73 (0, 0)) := by
    rw [hW3, hsb]
    exact (Below.heap_alloc _ _ _ (by simp)).trans (heap_alloc_new w2 _)
  have hBs : B ≤ sb := by rw [hsb, HB.out]; have := B2.size; exact this
  have S3 : Sht W3 B sb c [] 0 (.slice none 0 0) [] := ⟨SB, hBs, Row.nil _ _ _ _, rfl, fun k r l e _ => by simp at e, List.nodup_nil⟩
  have V3 : ViewAt W3 b1 v := (D3.block _ (lt_of_heap V2)).trans V2
  have X3 : Boxed W3 b3 3 (.int .i64 0) := (D3.block _ Y3.lt).trans Y3
  have X4 : Boxed W3 b4 3 (.int .i64 0) := (D3.block _ Y4.lt).trans Y4
  have B3 : Below B w W3 := B2.trans (D3.mono (by rw [HB.out]; exact B2.size))
  have U3 : U8 W3 := hU.later (by rw [← HB.out]; exact B3)
  rw [← hW3, ← hb8, ← hsb]
  clear hW3 hsb hb8 V2 Y3 Y4 B2 U2 D3 SB
  refine (row_calls S3 hc.1 hc.2 (by simp)).mono ?_
  rintro e w4 ⟨rfl, vv, rs, S4, K4, -⟩
  have A4 : ShA w4 B sb c ⟨[], []⟩ := ⟨vv, rs, by simpa [ShT.rows, padP] using S4, Nat.zero_le _⟩
  have V4 : ViewAt w4 b1 v := K4.off _ _ V3 ns_view
  have Y3 : Boxed w4 b3 3 (.int .i64 0) := K4.off _ _ X3 ns_int
  have Y4 : Boxed w4 b4 3 (.int .i64 0) := K4.off _ _ X4 ns_int
  have Y8 : Boxed w4 b8 71 (sptr sb) := K4.off _ _ X8 ns_ptr
  have B4 : Below B w w4 := B3.trans K4.bel
  have U4 : U8 w4 := hU.later (by rw [← HB.out]; exact B4)
  clear S3 V3 X3 X4 X8 B3 U3 S4 K4
  obtain ⟨-, -, vl, -, -, vt, va⟩ := V4.cells
  have hbw : B ≤ w4.heap.size := by rw [HB.out]; exact B4.size
  go_wp2_with fail
  have hsm : v.left.length ≤ 4000 ∧ v.right.length ≤ 4000 ∧ v.ghost.length ≤ 4000 ∧ v.text.length ≤ 4000 := by unfold ViewT.small at hv; omega
  have PL := Lib.hid (fun (l : Bs) (hl : l.length ≤ 4000) (W : World) (hb : Below w4.heap.size w4 W) => lplain_calls l (by omega) _ rfl W (U4.later hb))
  have VC := Lib.hid (fun (W : World) (hb : Below w4.heap.size w4 W) => show W.cell? ⟨b1, 2, none⟩ = some (str v.left) ∧ W.cell? ⟨b1, 5, none⟩ = some (str v.text) from ⟨(hb.cell (p := ⟨b1, 2, none⟩) (lt_of_heap V4)).trans vl, (hb.cell (p := ⟨b1, 5, none⟩) (lt_of_heap V4)).trans vt⟩)
  have w4d : Below w4.heap.size w4 w4.drew := (Below.refl _ _).drew
  go_region_held3 (fun w' => Below w4.heap.size w4 w' ∧ w'.cell? ⟨b1, 2, none⟩ = some (str v.left) ∧ w'.cell? ⟨b1, 5, none⟩ = some (str v.text)) (first | exact ⟨w4d, vl, vt⟩ | exact ⟨hbn, VC.out _ hbn⟩)
    ((go_at_call 39; first
      | ((with_reducible refine (PL.out v.left hsm.1 _ (by assumption)).mono ?_); rintro e w5 ⟨rfl, b5⟩; have hbn : Below w4.heap.size w4 w5 := Below.trans (by assumption) (b5.mono (Below.size (by assumption))))
      | ((with_reducible refine (PL.out v.text hsm.2.2.2 _ (by assumption)).mono ?_); rintro e w5 ⟨rfl, b5⟩; have hbn : Below w4.heap.size w4 w5 := Below.trans (by assumption) (b5.mono (Below.size (by assumption))))))
  rename_i hheld
  clear hheld
  have A5 := A4.later hbn
  have V5 : ViewAt w5 b1 v := (hbn.block _ (lt_of_heap V4)).trans V4
  have X3 : Boxed w5 b3 3 (.int .i64 0) := (hbn.block _ Y3.lt).trans Y3
  have X4 : Boxed w5 b4 3 (.int .i64 0) := (hbn.block _ Y4.lt).trans Y4
  have X8 : Boxed w5 b8 71 (sptr sb) := (hbn.block _ Y8.lt).trans Y8
  have B5 : Below B w w5 := B4.trans (hbn.mono hbw)
  have U5 : U8 w5 := hU.later (by rw [← HB.out]; exact B5)
  have hbw5 : B ≤ w5.heap.size := Nat.le_trans hbw hbn.size
  clear A4 V4 Y3 Y4 Y8 B4 U4 hbn vl vt va hbw PL VC w4d b5
  have pll := plainL_len v.left
  have plt := plainL_len v.text
  obtain ⟨lf, hlf⟩ : ∃ l, l = plainL v.left := ⟨_, rfl⟩
  obtain ⟨tx, htx⟩ : ∃ l, l = plainL v.text := ⟨_, rfl⟩
  have HLF := Lib.hid hlf
  have HTX := Lib.hid htx
  rw [← hlf] at pll ⊢
  rw [← htx] at plt ⊢
  clear hlf htx
  go_wp2_with (go_at_call 40; refine (Each_calls _ _).mono ?_; rintro e w' ⟨rfl, rfl⟩)
  obtain ⟨w6, hw6⟩ : ∃ w6, w6 = w5.alloc (.cells #[str lf] 9) := ⟨_, rfl⟩
  obtain ⟨bs, hbs⟩ : ∃ b, b = w5.heap.size := ⟨_, rfl⟩
  have D6 : Below w5.heap.size w5 w6 := by rw [hw6]; exact (Below.refl _ w5).alloc (Nat.le_refl _) _
  have YS : Boxed w6 bs 9 (str lf) := by rw [hw6, hbs]; exact Boxed.new w5 _ _
  rw [← hw6, ← hbs]
  have A6 := A5.later D6
  have V6 : ViewAt w6 b1 v := (D6.block _ (lt_of_heap V5)).trans V5
  have Y3 : Boxed w6 b3 3 (.int .i64 0) := (D6.block _ X3.lt).trans X3
  have Y4 : Boxed w6 b4 3 (.int .i64 0) := (D6.block _ X4.lt).trans X4
  have Y8 : Boxed w6 b8 71 (sptr sb) := (D6.block _ X8.lt).trans X8
  have B6 : Below B w w6 := B5.trans (D6.mono hbw5)
  have hbw6 : B ≤ w6.heap.size := Nat.le_trans hbw5 D6.size
  clear hw6 hbs A5 V5 X3 X4 X8 B5 U5 D6 hbw5
  have c120 : c ≤ 120 := hc.2
  have c1 : 1 ≤ c := hc.1
  refine (wpIn_wide (n := 9)).1 ?_
  refine wpIn_rangeFunc_ownG rfl (by omega) (gf := 55) (lb := #[bptr bs]) rfl trivial (enters_of Tryd.func55 (by kernel_rfl) rfl)
    (each_stops (9 - 1) (by omega) lf (by omega) bs w6 _ rfl YS) KpE.t (KpE.b YS.lt) (Below.refl _ _) (fun _ => rfl)
    (fun (pre : List (Cl lf.length)) W => ShI w6 B sb c ⟨[], []⟩ pre W)
    (fun _ _ _ => False)
    (shI_own hbw6 hbw6 (Nat.le_refl _))
    (fun _ _ _ _ _ hs _ _ => hs)
    ⟨A6, KpS.refl _ _⟩
    ?a1 ?assign ?body ?done ?stop
  case assign =>
    intro yl x W K hK
    unfold encs
    gi_wp2
    exact hK
  case body =>
    rintro yl pre x W ⟨hA, hK⟩ hlt
    have Z8 : Boxed W b8 71 (sptr sb) := hK.off _ _ Y8 ns_ptr
    have k8 := Z8.cell
    have ZS : Boxed W bs 9 (str lf) := hK.off _ _ YS ns_str
    have hxl := x.2
    have hdn := fold_done c (cls pre) ⟨[], []⟩
    have hcl := cuts_len lf
    have PT := Lib.hid (put_calls hA c1 c120 (by simp [cls] at hdn ⊢; omega) x.1.2 (by omega))
    have e1 : foldS c ⟨[], []⟩ (cls (pre ++ [x])) = putP c (foldS c ⟨[], []⟩ (cls pre)) x.1.2 := by rw [← foldS_snoc]; simp [cls]
    have HE := Lib.hid e1
    have HZ := Lib.hid ZS
    have HK := Lib.hid hK
    clear e1 ZS hK hA hdn hcl Z8 hlt hxl A6
    gi_wp2_with (refine ⟨trivial, ?_⟩; gi_at_call 41; refine (CallsIn.inRound yl (callsIn_wide.2 PT.out)).mono ?_; rintro e w7 ⟨rfl, hA7, hK7⟩)
    exact ⟨hK7.others.from _, ⟨keepsWalks_of hK7.others, (hK7.off bs _ HZ.out ns_str).trans (show W.heap[bs]? = _ from HZ.out).symm⟩, HE.out.symm ▸ hA7, HK.out.trans hK7⟩
  case done =>
    as_aux_lemma =>
      rintro D1 ys W hD hys ⟨hA, hK⟩ hKd
      rw [cls_val hys] at hA
      have hS1 : foldS c ⟨[], []⟩ (cuts lf) = v.s1 := by rw [HLF.out, HC.out]; rfl
      rw [hS1] at hA
      have V7 : ViewAt W b1 v := hK.off _ _ V6 ns_view
      have X3 : Boxed W b3 3 (.int .i64 0) := hK.off _ _ Y3 ns_int
      have X4 : Boxed W b4 3 (.int .i64 0) := hK.off _ _ Y4 ns_int
      have X8 : Boxed W b8 71 (sptr sb) := hK.off _ _ Y8 ns_ptr
      have B7 : Below B w W := B6.trans hK.bel
      have hbw7 : B ≤ W.heap.size := Nat.le_trans hbw6 hK.bel.size
      have hdn : v.s1.done.length ≤ 1200 := by
        rw [← hS1]
        have := fold_done c (cuts lf) ⟨[], []⟩
        have := cuts_len lf
        simp at *; omega
      have hbw6' := hbw6
      clear hS1 hys hK A6 V6 Y3 Y4 Y8 YS B6 hbw6 HLF pll hsm
      have va := V7.cells.2.2.2.2.2.2
      have BK := Lib.hid (fun W => lback_calls tx (by omega) _ rfl v.at_ W)
      go_wp2_with (first
        | (go_at_call 42; refine (BK.out _).mono ?_; rintro e w8 ⟨rfl, b8'⟩)
        | (go_at_call 40; refine (Each_calls _ _).mono ?_; rintro e w' ⟨rfl, rfl⟩))
      obtain ⟨a, ha⟩ : ∃ a, a = back tx v.at_ := ⟨_, rfl⟩
      have HA := Lib.hid ha
      rw [← ha]
      have V8 : ViewAt w8 b1 v := (b8'.block _ (lt_of_heap V7)).trans V7
      have Y3 : Boxed w8 b3 3 (.int .i64 0) := (b8'.block _ X3.lt).trans X3
      have Y4 : Boxed w8 b4 3 (.int .i64 0) := (b8'.block _ X4.lt).trans X4
      have Y8 : Boxed w8 b8 71 (sptr sb) := (b8'.block _ X8.lt).trans X8
      have A8 := hA.later b8'
      have B8 : Below B w w8 := B7.trans (b8'.mono hbw7)
      have hbw8 : B ≤ w8.heap.size := Nat.le_trans hbw7 b8'.size
      have hKd8 : w8.heap[D1]? = some (.deferred (some [])) := (b8'.block _ (lt_of_heap hKd)).trans hKd
      clear ha V7 X3 X4 X8 hA B7 hbw7 hKd b8' BK va
      obtain ⟨w9, hw9⟩ : ∃ w9, w9 = (w8.alloc (.cells #[n64 a] 3)).alloc (.cells #[str tx] 9) := ⟨_, rfl⟩
      have D9 : Below w8.heap.size w8 w9 := by rw [hw9]; exact ((Below.refl _ w8).alloc (Nat.le_refl _) _).alloc (by simp) _
      obtain ⟨b13, hb13⟩ : ∃ b, b = w8.heap.size := ⟨_, rfl⟩
      obtain ⟨bt, hbt⟩ : ∃ b, b = w8.heap.size + 1 := ⟨_, rfl⟩
      have X13 : Boxed w9 b13 3 (n64 a) := by rw [hw9, hb13]; exact (Boxed.new w8 _ _).alloc _
      have XT : Boxed w9 bt 9 (str tx) := by
        rw [hw9, hbt]
        have := Boxed.new (w8.alloc (.cells #[n64 a] 3)) 9 (str tx)
        rwa [World.size_alloc] at this
      have V9 : ViewAt w9 b1 v := (D9.block _ (lt_of_heap V8)).trans V8
      have X3 : Boxed w9 b3 3 (n64 0) := (D9.block _ Y3.lt).trans Y3
      have X4 : Boxed w9 b4 3 (n64 0) := (D9.block _ Y4.lt).trans Y4
      have X8 : Boxed w9 b8 71 (sptr sb) := (D9.block _ Y8.lt).trans Y8
      have A9 := A8.later D9
      have B9 : Below B w w9 := B8.trans (D9.mono hbw8)
      have hbw9 : B ≤ w9.heap.size := Nat.le_trans hbw8 D9.size
      have hKd9 : w9.heap[D1]? = some (.deferred (some [])) := (D9.block _ (lt_of_heap hKd8)).trans hKd8
      have n13 : b13 ≠ b3 ∧ b13 ≠ b4 := ⟨by have := Y3.lt; omega, by have := Y4.lt; omega⟩
      have n8 : b8 ≠ b3 ∧ b8 ≠ b4 := ⟨ne_of_types X8 X3 (by decide), ne_of_types X8 X4 (by decide)⟩
      have n34 : b3 ≠ b4 := by rw [Q3.out, Q4.out]; omega
      have n43 : b4 ≠ b3 := fun e => n34 e.symm
      have nt : bt ≠ b3 ∧ bt ≠ b4 := ⟨by have := Y3.lt; omega, by have := Y4.lt; omega⟩
      have hB3 : B ≤ b3 := by rw [Q3.out]; omega
      have hB4 : B ≤ b4 := by rw [Q4.out]; omega
      have H34 : ∀ W1 : World, (∃ x, Boxed W1 b3 3 x) → (∃ x, Boxed W1 b4 3 x) → ∀ k, (k = b3 ∨ k = b4) → ∃ cs T m, W1.heap[k]? = some (.cells cs T m) := fun W1 h3 h4 k hk => by
        rcases hk with rfl | rfl
        · obtain ⟨x, h⟩ := h3; exact ⟨_, _, _, h⟩
        · obtain ⟨x, h⟩ := h4; exact ⟨_, _, _, h⟩
      rw [← hw9, ← hbt, ← hb13]
      clear hw9 hb13 hbt V8 Y3 Y4 Y8 A8 B8 hbw8 hKd8 D9
      refine (wpIn_wide (n := 9)).1 ?_
      refine wpIn_rangeFunc_ownG rfl (by omega) (gf := 55) (lb := #[bptr bt]) rfl trivial (enters_of Tryd.func55 (by kernel_rfl) rfl)
        (each_stops (9 - 1) (by omega) tx (by omega) bt w9 _ rfl XT) KpE.t (KpE.b XT.lt) (Below.refl _ _) (fun _ => rfl)
        (fun (pre : List (Cl tx.length)) W => CuI w9 B sb c a b3 b4 v.s1 pre W)
        (fun _ _ _ => False)
        (cuI_own hbw9 hbw9 (Nat.le_refl _))
        (fun _ _ _ _ _ hs _ _ => hs)
        ⟨A9, X3, X4, KpX.refl _ _ _⟩
        ?a2 ?assign2 ?body2 ?done2 ?stop2
      case assign2 =>
        intro yl x W K hK
        unfold encs
        gi_wp2
        exact hK
      case body2 =>
        rintro yl pre x W ⟨hA, h3, h4, hK⟩ hlt
        have Z8 : Boxed W b8 71 (sptr sb) := hK.off _ _ X8 ns_ptr (by rintro (e | e); exact n8.1 e; exact n8.2 e)
        have Z13 : Boxed W b13 3 (n64 a) := hK.off _ _ X13 ns_int (by rintro (e | e); exact n13.1 e; exact n13.2 e)
        have k8 := Z8.cell
        have k13 := Z13.cell
        have ZT : Boxed W bt 9 (str tx) := hK.off _ _ XT ns_str (by rintro (e | e); exact nt.1 e; exact nt.2 e)
        have hxl := x.2
        have hd := fold_done c (cls pre) v.s1
        have hcl := cuts_len tx
        have PT := Lib.hid (put_calls hA c1 c120 (by simp [cls] at hd ⊢; omega) x.1.2 (by omega))
        have e1 : foldS c v.s1 (cls (pre ++ [x])) = putP c (foldS c v.s1 (cls pre)) x.1.2 := by rw [← foldS_snoc]; simp [cls]
        have e2 : curX c a v.s1 (val (pre ++ [x])) (0, 0) = if x.1.1 = a then placeP c (foldS c v.s1 (cls pre)) x.1.2 else curX c a v.s1 (val pre) (0, 0) := by
          have : val (pre ++ [x]) = val pre ++ [(x.1.1, x.1.2)] := by simp [val]
          have hm : (val pre).map Prod.snd = cls pre := by unfold val cls; rw [List.map_map]; rfl
          rw [this, curX_snoc, hm]
        have HE := Lib.hid e1
        have HE2 := Lib.hid e2
        have HZ := Lib.hid ZT
        have HK := Lib.hid hK
        obtain ⟨pl, hpl⟩ : ∃ p, p = placeP c (foldS c v.s1 (cls pre)) x.1.2 := ⟨_, rfl⟩
        rw [← hpl] at PT HE2
        have H3 := Lib.hid h3
        have H4 := Lib.hid h4
        have H13 := Lib.hid Z13
        clear e1 e2 ZT hK hA hd hcl Z8 Z13 hlt hxl A9 hpl h3 h4
        by_cases hk : x.1.1 = a
        · have q1 : (((x.1.1 : Nat) : Int) == (a : Int)) = true := by simp [hk]
          rw [if_pos hk] at HE2
          clear hk
          gi_wp2_with (refine ⟨trivial, ?_⟩; gi_at_call 41; refine (CallsIn.inRound yl (callsIn_wide.2 PT.out)).mono ?_; rintro e w7 ⟨rfl, hA7, hK7⟩; have z13 : w7.cell? ⟨b13, 0, none⟩ = some (n64 a) := Boxed.cell (t := 3) (hK7.off _ _ H13.out ns_int); have z3 := (Boxed.cell (t := 3) (hK7.off _ _ H3.out ns_int)); have z4 := (Boxed.cell (t := 3) (hK7.off _ _ H4.out ns_int)); have f3 := (Boxed.frozen (t := 3) (hK7.off _ _ H3.out ns_int)); have f4 := (Boxed.frozen (t := 3) (hK7.off _ _ H4.out ns_int)))
          have g3 : Boxed w7 b3 3 _ := hK7.off _ _ H3.out ns_int
          have g4 : Boxed w7 b4 3 _ := hK7.off _ _ H4.out ns_int
          have kx : KpX B (fun k => k = b3 ∨ k = b4) W ((w7.setCell ⟨b3, 0, none⟩ (n64 pl.1)).setCell ⟨b4, 0, none⟩ (n64 pl.2)) := ((KpX.of hK7).setCell hB3 (.inl rfl) 0 _).setCell hB4 (.inr rfl) 0 _
          have ko := kx.others (H34 W ⟨_, H3.out⟩ ⟨_, H4.out⟩)
          have ex : CuI w9 B sb c a b3 b4 v.s1 (pre ++ [x]) ((w7.setCell ⟨b3, 0, none⟩ (n64 pl.1)).setCell ⟨b4, 0, none⟩ (n64 pl.2)) := ⟨HE.out.symm ▸ ((hA7.setCell g3 ns_int _).setCell (g4.other n43 _) ns_int _), by rw [HE2.out]; exact (g3.set _).other n34 _, by rw [HE2.out]; exact (g4.other n43 _).set _, HK.out.trans kx⟩
          exact ⟨ko.from _, ⟨keepsWalks_of ko, (kx.off bt _ HZ.out ns_str (by rintro (e | e); exact nt.1 e; exact nt.2 e)).trans (show W.heap[bt]? = _ from HZ.out).symm⟩, ex⟩
        · have q1 : (((x.1.1 : Nat) : Int) == (a : Int)) = false := by simp; omega
          rw [if_neg hk] at HE2
          clear hk
          gi_wp2_with (refine ⟨trivial, ?_⟩; gi_at_call 41; refine (CallsIn.inRound yl (callsIn_wide.2 PT.out)).mono ?_; rintro e w7 ⟨rfl, hA7, hK7⟩; have z13 : w7.cell? ⟨b13, 0, none⟩ = some (n64 a) := Boxed.cell (t := 3) (hK7.off _ _ H13.out ns_int); have z3 := (Boxed.cell (t := 3) (hK7.off _ _ H3.out ns_int)); have z4 := (Boxed.cell (t := 3) (hK7.off _ _ H4.out ns_int)); have f3 := (Boxed.frozen (t := 3) (hK7.off _ _ H3.out ns_int)); have f4 := (Boxed.frozen (t := 3) (hK7.off _ _ H4.out ns_int)))
          have ex : CuI w9 B sb c a b3 b4 v.s1 (pre ++ [x]) w7 := ⟨HE.out.symm ▸ hA7, by rw [HE2.out]; exact hK7.off _ _ H3.out ns_int, by rw [HE2.out]; exact hK7.off _ _ H4.out ns_int, HK.out.trans (KpX.of hK7)⟩
          exact ⟨hK7.others.from _, ⟨keepsWalks_of hK7.others, (hK7.off bt _ HZ.out ns_str).trans (show W.heap[bt]? = _ from HZ.out).symm⟩, ex⟩
      case done2 =>
        as_aux_lemma =>
          rintro D2 ys W hD2 hys ⟨hA, h3, h4, hK⟩ hKd2
          rw [cls_val hys] at hA
          rw [hys, curX_ats] at h3 h4
          have hS2 : foldS c v.s1 (cuts tx) = v.s2 := by rw [HTX.out, HC.out]; rfl
          rw [hS2] at hA
          have hdn2 : v.s2.done.length ≤ 2400 := by
            rw [← hS2]
            have := fold_done c (cuts tx) v.s1
            have := cuts_len tx
            omega
          have V10 : ViewAt W b1 v := hK.off _ _ V9 ns_view (by rintro (e | e); exact ne_of_types V9 X3 (by decide) e; exact ne_of_types V9 X4 (by decide) e)
          have X8 : Boxed W b8 71 (sptr sb) := hK.off _ _ X8 ns_ptr (by rintro (e | e); exact n8.1 e; exact n8.2 e)
          have X13 : Boxed W b13 3 (n64 a) := hK.off _ _ X13 ns_int (by rintro (e | e); exact n13.1 e; exact n13.2 e)
          have hKd1 : W.heap[D1]? = some (.deferred (some [])) := hK.off _ _ hKd9 trivial (by rintro (e | e) <;> subst e; exact absurd (hKd9.symm.trans X3) (by simp); exact absurd (hKd9.symm.trans X4) (by simp))
          have B10 : Below B w W := B9.trans hK.bel
          have hbw10 : B ≤ W.heap.size := Nat.le_trans hbw9 hK.bel.size
          have U10 : U8 W := hU.later (by rw [← HB.out]; exact B10)
          have hDD : D1 ≠ D2 := by have := lt_of_heap hKd9; omega
          have hD1 : B ≤ D1 := Nat.le_trans hbw6' hD
          have hD2' : B ≤ D2 := Nat.le_trans hbw9 hD2
          clear hS2 hys hK A9 V9 X3 X4 XT B9 hbw9 hKd9 H34 nt plt hdn
          have C8 := X8.cell
          have C13 := X13.cell
          obtain ⟨vv, rs, hS, hcur⟩ := hA
          obtain ⟨s0, s1, s2, e0, e1, e2⟩ := hS.cells
          have hsz : (⟨tx.toArray⟩ : ByteArray).size = tx.length := str_of tx
          have hSx : v.s2.rows c = v.s2.done ++ [padP c v.s2.cur] := rfl
          have DW := Lib.hid (show DwS w W B sb c b1 b3 b4 b8 D1 D2 v (v.s2.rows c) v.s2.cur.length (curF c a v.s1 0 (cuts tx) (0, 0)) from ⟨⟨vv, rs, hS⟩, h3, h4, X8, V10, hKd1, hKd2, B10⟩)
          clear h3 h4 X8 X13 V10 hKd1 hKd2 B10 hSx
          have hfo : Tryd.prog.follows Departure.mixedOrders = true := by kernel_rfl
          go_upto_if 76 with fail
          go_cut [] from 76 to 107 (fun wx => DwS w wx B sb c b1 b3 b4 b8 D1 D2 v (v.s3.done ++ [padP c v.A]) v.A.length v.cursor)
          case first =>
            as_aux_lemma =>
              by_cases hE : a = tx.length
              · have q1 : ((a : Int) == (tx.length : Int)) = true := by simp [hE]
                have hat : v.atEnd = true := by
                  unfold ViewT.atEnd ViewT.at' ViewT.tx; rw [← HTX.out, ← HA.out]; exact decide_eq_true hE
                have hlt3 := v.s3_lt hat
                obtain ⟨y, hy⟩ : ∃ y, y = v.s2.cur.length := ⟨_, rfl⟩
                have hs3 : v.s3 = fitP c v.s2 1 := by unfold ViewT.s3; rw [hat, if_pos rfl, HC.out]
                rw [← hy] at hcur s2
                have HY := Lib.hid hy
                have HAT := Lib.hid hat
                have HS3 := Lib.hid hs3
                have HSS := Lib.hid hS
                clear hE hat hy hs3 hS
                rw [q1]
                go_wp2_with fail
                go_quiet (fail)
                rename_i nq
                have bq := below_drewN W nq
                have U11 := U10.later bq
                have hbw11 : B ≤ (W.drewN nq).heap.size := hbw10
                have HS11 := Lib.hid (HSS.out.later bq)
                have DW11 := Lib.hid (DW.out.later bq hbw10)
                have C8' : (W.drewN nq).cell? ⟨b8, 0, none⟩ = some (sptr sb) := C8
                obtain ⟨w11, hw11⟩ : ∃ w11, w11 = W.drewN nq := ⟨_, rfl⟩
                rw [← hw11] at HS11 DW11 U11 hbw11 C8' ⊢
                clear hw11 bq C8 C13 s0 s1 s2 e0 e1 e2 HSS DW U10 hbw10
                go_upto_if 85 with fail
                go_cut [] from 85 to 87 (fun wx => DwS w wx B sb c b1 b3 b4 b8 D1 D2 v (v.s3.done ++ [padP c v.s3.cur]) v.s3.cur.length (curF c a v.s1 0 (cuts tx) (0, 0)))
                case first =>
                  by_cases hf : c ≤ y
                  · have q2 : decide ((c : Int) ≤ (y : Int)) = true := by simpa using hf
                    go_wp2_with fail
                    refine (row_calls HS11.out c1 c120 (by unfold ShT.rows; simp; omega)).mono ?_
                    rintro e w12 ⟨rfl, vv2, rs2, S12, K12, -⟩
                    go_wp2_with fail
                    go_meet
                    have e3 : v.s3 = ⟨v.s2.rows c, []⟩ := by rw [HS3.out]; unfold fitP; rw [if_pos (by rw [← HY.out]; omega)]
                    rw [e3]
                    exact DW11.out.move K12 ⟨_, _, by simpa [padP] using S12⟩
                  · have q2 : decide ((c : Int) ≤ (y : Int)) = false := by simpa using hf
                    go_wp2_with fail
                    go_meet
                    have e3 : v.s3 = v.s2 := by rw [HS3.out]; unfold fitP; rw [if_neg (by rw [← HY.out]; omega)]
                    rw [e3]
                    exact DW11.out
                case rest =>
                  as_aux_lemma =>
                    obtain ⟨vv3, rs3, S3⟩ := hcut.sh
                    obtain ⟨N, hN⟩ : ∃ N, N = v.s3.done.length := ⟨_, rfl⟩
                    obtain ⟨z, hz⟩ : ∃ z, z = v.s3.cur.length := ⟨_, rfl⟩
                    have C8 := hcut.x8.cell
                    obtain ⟨g0, o0, cp0, r0, hv0, -, -⟩ := S3.last
                    subst hv0
                    obtain ⟨s0, s1, s2, -, -, -⟩ := S3.cells
                    rw [← hN] at s1
                    rw [← hz] at s2
                    have HDW := Lib.hid hcut
                    have HS3' := Lib.hid S3
                    have HN := Lib.hid hN
                    have HZ := Lib.hid hz
                    have C3 := hcut.x3.cell
                    have C4 := hcut.x4.cell
                    have F3 := hcut.x3.frozen
                    have F4 := hcut.x4.frozen
                    have N3 : v.s3.done.length ≤ 2401 := by
                      rw [HS3.out]; unfold fitP; split
                      · simp [ShT.rows]; omega
                      · omega
                    have hN3 : N ≤ 2401 := by omega
                    clear hcut S3 hN hz s0 C8' HS11 DW11 U11
                    obtain ⟨pc, hpc⟩ : ∃ pc, pc = curF c a v.s1 0 (cuts tx) (0, 0) := ⟨_, rfl⟩
                    rw [← hpc] at C3 C4 HDW
                    clear hpc
                    have t3 : IntKind.i64.wrap ((N : Int) + 1 - 1) = N := by rw [IntKind.wrap_i64]; omega
                    go_wp2_with fail
                    have m83 : b8 ≠ b3 := n8.1
                    have m84 : b8 ≠ b4 := n8.2
                    have ms3 : sb ≠ b3 := ne_of_types HS3'.out.box HDW.out.x3 (by decide)
                    have ms4 : sb ≠ b4 := ne_of_types HS3'.out.box HDW.out.x4 (by decide)
                    go_region
                    obtain ⟨we, hwe⟩ : ∃ we, we = ((wc.setCell ⟨b3, 0, none⟩ (n64 N)).setCell ⟨b4, 0, none⟩ (n64 z)).drew := ⟨_, rfl⟩
                    rw [← hwe]
                    have DE : DwS w we B sb c b1 b3 b4 b8 D1 D2 v (v.s3.done ++ [padP c v.s3.cur]) v.s3.cur.length (N, z) := by
                      as_aux_lemma =>
                        have h := HDW.out
                        have hs := HS3'.out
                        have nd1 : D1 ≠ b3 ∧ D1 ≠ b4 := ⟨fun e => (by have := h.k1; rw [e, show wc.heap[b3]? = _ from h.x3] at this; cases this), fun e => (by have := h.k1; rw [e, show wc.heap[b4]? = _ from h.x4] at this; cases this)⟩
                        have nd2 : D2 ≠ b3 ∧ D2 ≠ b4 := ⟨fun e => (by have := h.k2; rw [e, show wc.heap[b3]? = _ from h.x3] at this; cases this), fun e => (by have := h.k2; rw [e, show wc.heap[b4]? = _ from h.x4] at this; cases this)⟩
                        have hoth : ∀ k : Nat, k ≠ b3 → k ≠ b4 → we.heap[k]? = wc.heap[k]? := fun k k3 k4 => by
                          rw [hwe]
                          exact (heap_setCell_other _ _ _ _ k4).trans (heap_setCell_other _ _ _ _ k3)
                        have g4 : Boxed (wc.setCell ⟨b3, 0, none⟩ (n64 N)) b4 3 (n64 pc.2) := h.x4.other n43 _
                        refine ⟨⟨.slice (some ⟨g0, o0, none⟩) (v.s3.done.length + 1) cp0, rs3, ?_⟩, ?_, ?_, (hoth _ n8.1 n8.2).trans h.x8, (hoth _ (ne_of_types h.vw h.x3 (by decide)) (ne_of_types h.vw h.x4 (by decide))).trans h.vw, (hoth _ nd1.1 nd1.2).trans h.k1, (hoth _ nd2.1 nd2.2).trans h.k2, ?_⟩
                        · rw [hwe]
                          exact ((hs.setCell (i := 0) h.x3 ns_int (n64 N)).setCell (i := 0) g4 ns_int (n64 z)).keep fun _ _ _ _ e => e
                        · rw [hwe]; exact (h.x3.set _).other n34 _
                        · rw [hwe]; exact g4.set _
                        · rw [hwe]; exact ((h.bel.setCell (p := ⟨b3, 0, none⟩) hB3 _).setCell (p := ⟨b4, 0, none⟩) hB4 _).drew
                    clear hwe HDW HS3' C8 s1 s2 C3 C4 F3 F4 m83 m84 ms3 ms4
                    have hbwe : B ≤ we.heap.size := by rw [HB.out]; have := DE.bel.size; exact this
                    have Ue : U8 we := hU.later (by rw [← HB.out]; exact DE.bel)
                    have plg := plainL_len v.ghost
                    have hsm : v.ghost.length ≤ 4000 := by unfold ViewT.small at hv; omega
                    have PG := Lib.hid (lplain_calls v.ghost (by omega) _ rfl we.drew (Ue.later (Below.refl _ _).drew))
                    obtain ⟨gx, hgx⟩ : ∃ g, g = plainL v.ghost := ⟨_, rfl⟩
                    rw [← hgx] at plg PG
                    have HGX := Lib.hid hgx
                    have HDE := Lib.hid DE
                    have GC := Lib.hid (fun (W : World) (hb : Below we.heap.size we W) => by
                      obtain ⟨vv4, rs4, S4⟩ := (HDE.out.later hb hbwe).sh
                      exact (ghost_calls S4 c1 c120 (by omega) (by rw [HC.out]; exact hlt3) gx (by omega)).mono fun e w' h => show e = _ ∧ (∃ vv rs, Sht w' B sb c (v.s3.done ++ [padP c (v.s3.cur ++ ghostP c v.s3.cur.length gx)]) v.s3.cur.length vv rs) ∧ KpS B W w' from ⟨h.1, ⟨_, _, h.2.1⟩, h.2.2⟩)
                    rw [← HN.out, ← HZ.out] at GC
                    clear hgx DE hlt3
                    have CE := Lib.hid (fun (W : World) (hb : KpS B we W) => show W.cell? ⟨b8, 0, none⟩ = some (sptr sb) ∧ W.cell? ⟨b1, 4, none⟩ = some (str v.ghost) ∧ W.cell? ⟨b3, 0, none⟩ = some (n64 N) ∧ W.cell? ⟨b4, 0, none⟩ = some (n64 z) from
                      ⟨Boxed.cell (t := 71) (hb.off _ _ HDE.out.x8 ns_ptr), (ViewAt.cells (v := v) (hb.off _ _ HDE.out.vw ns_view)).2.2.2.2.1, Boxed.cell (t := 3) (hb.off _ _ HDE.out.x3 ns_int), Boxed.cell (t := 3) (hb.off _ _ HDE.out.x4 ns_int)⟩)
                    have kd := (KpS.refl B we).drew
                    obtain ⟨i1, i2, i3, i4⟩ := CE.out _ kd
                    clear hv hU HB HTX HA HY HS3 Q1 Q3 Q4 hBs n13 n8 n34 n43 hB3 hB4 hD1 hD2' hDD hD hD2 hbw6' hdn2 hsz hcur q1 hbw11 N3 hN3 t3 plg hsm Ue c120 c1 hc
                    go_wp2_with fail
                    go_region_held3 (fun w' => w'.cell? ⟨b8, 0, none⟩ = some (sptr sb) ∧ w'.cell? ⟨b1, 4, none⟩ = some (str v.ghost) ∧ w'.cell? ⟨b3, 0, none⟩ = some (n64 N) ∧ w'.cell? ⟨b4, 0, none⟩ = some (n64 z)) (first | exact CE.out _ kd | exact CE.out _ (.of_below bf2 hbwe) | exact CE.out _ kg | exact CE.out _ (kg.setCell S5.box ns_sheet S5.hB _))
                      (first
                      | (go_at_call 39; (with_reducible refine PG.out.mono ?_); rintro e wf ⟨rfl, bf⟩; have bf2 : Below we.heap.size we wf := (Below.refl _ _).drew.trans bf)
                      | (go_at_call 43; (with_reducible refine (GC.out _ bf2).mono ?_); rintro e wg ⟨rfl, hSg, hKg⟩; obtain ⟨vv5, rs5, S5⟩ := hSg; obtain ⟨-, -, s2, -, -, f2⟩ := S5.cells; have kg := (KpS.of_below bf2 hbwe).trans hKg))
                    go_wp2_with fail
                    go_meet
                    have eA : v.A = v.s3.cur ++ ghostP c v.s3.cur.length gx := by unfold ViewT.A ViewT.gh; rw [HAT.out, if_pos rfl, ← HC.out, ← HGX.out]
                    have eC : v.cursor = (N, z) := by unfold ViewT.cursor; rw [HAT.out, if_pos rfl, HN.out, HZ.out]
                    rw [eA, eC]
                    have hd := HDE.out.move (kg.setCell S5.box ns_sheet S5.hB (i := 2) (n64 (v.s3.cur ++ ghostP c v.s3.cur.length gx).length)) ⟨_, _, S5.setCol _⟩
                    have e5 : n64 (v.s3.cur ++ ghostP c v.s3.cur.length gx).length = .int .i64 ((v.s3.cur.length : Int) + ((ghostP c v.s3.cur.length gx).length : Int)) := by rw [List.length_append]; simp
                    rw [e5, ← HZ.out] at hd
                    rw [← HZ.out]
                    exact hd
              · have q1 : ((a : Int) == (tx.length : Int)) = false := by simp; omega
                have hat : v.atEnd = false := by
                  unfold ViewT.atEnd ViewT.at' ViewT.tx; rw [← HTX.out, ← HA.out]; exact decide_eq_false hE
                go_wp2_with fail
                go_meet
                have e1 : v.A = v.s2.cur := by unfold ViewT.A ViewT.gh ViewT.s3; rw [hat]; simp
                have e2 : v.s3 = v.s2 := by unfold ViewT.s3; rw [hat]; simp
                have e3 : v.cursor = curF c a v.s1 0 (cuts tx) (0, 0) := by unfold ViewT.cursor ViewT.at' ViewT.tx; rw [hat, HTX.out, HA.out, HC.out, HTX.out]; simp
                rw [e1, e2, e3]
                exact DW.out
          case rest =>
            as_aux_lemma =>
              clear C8 C13 vv rs hS s0 s1 s2 e0 e1 e2 hcur hdn2 DW hbw10 U10 HA HTX X13 X8 n13 n8 hD hD2 hbw6' hsz Q1 Q3 Q4
              obtain ⟨vv, rs, S0⟩ := hcut.sh
              obtain ⟨s0, s1, s2, -, -, -⟩ := S0.cells
              have C8 := hcut.x8.cell
              obtain ⟨N, hN⟩ : ∃ N, N = v.s3.done.length := ⟨_, rfl⟩
              obtain ⟨z, hz⟩ : ∃ z, z = v.A.length := ⟨_, rfl⟩
              obtain ⟨g0, o0, cp0, r0, hv0, hr0, hc0⟩ := S0.last
              subst hv0
              rw [← hN] at s1 hc0
              rw [← hz] at s2
              have HDW := Lib.hid hcut
              have HSS := Lib.hid S0
              have HN := Lib.hid hN
              have HZ := Lib.hid hz
              have HR0 := Lib.hid hr0
              have hbwc : B ≤ wc.heap.size := by rw [HB.out]; have := hcut.bel.size; exact this
              have Uc : U8 wc := hU.later (by rw [← HB.out]; exact hcut.bel)
              have vr := hcut.vw.cells.2.2.2.1
              have hzc : z ≤ c := by rw [hz, HC.out]; exact v.A_le
              have hsm : v.right.length ≤ 4000 := by unfold ViewT.small at hv; omega
              have PR := Lib.hid (lplain_calls v.right (by omega) _ rfl wc Uc)
              have plr := plainL_len v.right
              obtain ⟨pr, hpr⟩ : ∃ p, p = v.pr := ⟨_, rfl⟩
              rw [show plainL v.right = pr from hpr.symm] at plr PR
              have HPR := Lib.hid hpr
              obtain ⟨fs, hfs⟩ : ∃ f, f = v.first := ⟨_, rfl⟩
              have hfc : fs ≤ c := by rw [hfs]; unfold ViewT.first; split; · rw [← hz]; exact hzc
                                      · rw [HC.out]; exact Nat.le_refl _
              have hfN : fs = if N = 0 then z else c := by
                rw [hfs, hN, hz, HC.out]; unfold ViewT.first
                by_cases h : v.s3.done = []
                · rw [if_pos h, if_pos (by rw [h]; rfl)]
                · rw [if_neg h, if_neg (fun e => h (List.eq_nil_of_length_eq_zero e))]
              have HFS := Lib.hid hfs
              have HFN := Lib.hid hfN
              clear hN hz S0 hcut hr0 hpr hfs hfN hv hU W3 Uc hsm
              go_upto_if 113 with fail
              go_cut [18] from 113 to 117 (fun s18 wx => s18 = n64 fs ∧ wx = wc)
              case first =>
                by_cases h0 : N = 0
                · have q1 : (((N : Int) + 1) == 1) = true := by simp [h0]
                  have e1 : fs = z := by rw [HFN.out, if_pos h0]
                  have E1 := Lib.hid e1
                  clear h0 e1
                  go_wp2_with fail
                  go_meet
                  exact ⟨by rw [E1.out], rfl⟩
                · have q1 : (((N : Int) + 1) == 1) = false := by simp; omega
                  have e1 : fs = c := by rw [HFN.out, if_neg h0]
                  have E1 := Lib.hid e1
                  clear h0 e1
                  go_wp2_with fail
                  go_meet
                  exact ⟨by rw [E1.out], rfl⟩
              case rest =>
                obtain ⟨rfl, rfl⟩ := hcut
                go_wp2_with fail
                refine PR.out.mono ?_
                rintro e wd ⟨rfl, hbd⟩
                have DWd := HDW.out.later hbd hbwc
                have HSd := Lib.hid (HSS.out.later hbd)
                have hbwd : B ≤ wd.heap.size := Nat.le_trans hbwc hbd.size
                have HDd := Lib.hid DWd
                have CD := Lib.hid (fun (W : World) (hb : Below wd.heap.size wd W) => show W.cell? ⟨b8, 0, none⟩ = some (sptr sb) ∧ W.cell? ⟨sb, 0, none⟩ = some (n64 c) from ⟨(hb.cell (p := ⟨b8, 0, none⟩) HDd.out.x8.lt).trans HDd.out.x8.cell, (hb.cell (p := ⟨sb, 0, none⟩) (lt_of_heap HSd.out.box)).trans HSd.out.cells.1⟩)
                have SU := Lib.hid (fun W => Sum_calls pr (by omega) _ rfl W)
                have hws := wsum_le (cuts pr)
                have hcl := cuts_len pr
                have hiR : v.isR = (decide (pr ≠ []) && decide ((fs : Int) + 1 + wsum (cuts pr) ≤ c)) := by unfold ViewT.isR; rw [HPR.out, HFS.out, HC.out]
                obtain ⟨sm, hsm⟩ : ∃ sm, sm = wsum (cuts pr) := ⟨_, rfl⟩
                rw [← hsm] at SU hws hiR
                have HSM := Lib.hid hsm
                have HIR := Lib.hid hiR
                have wdd : Below wd.heap.size wd wd.drew := (Below.refl _ _).drew
                clear C8 s2 hc0 s1 hbwc vr PR s0 HDW HSS hbd DWd hsm hiR
                obtain ⟨sv, hsv⟩ : ∃ s : ByteArray, s = ⟨pr.toArray⟩ := ⟨_, rfl⟩
                have HSV := Lib.hid hsv
                rw [show str pr = .string sv from by rw [hsv]]
                have SV := Lib.hid (show ∀ W, Calls Tryd.prog 44 #[.string sv] W fun e w' => e = .returned (.int .i64 sm) ∧ Below W.heap.size W w' by rw [hsv]; exact SU.out)
                clear hsv SU
                go_upto_region 24 with fail
                go_cut [5] from 121 to 134 (fun s5 wx => s5 = .bool v.isR ∧ Below wd.heap.size wd wx)
                case first =>
                  as_aux_lemma =>
                    by_cases hp : pr = []
                    · have e1 : v.isR = false := by rw [HIR.out, hp]; rfl
                      have E1 := Lib.hid e1
                      have e0 : sv = ⟨#[]⟩ := by rw [HSV.out, hp]
                      clear e1 HSV
                      subst e0
                      obtain ⟨k1, k2⟩ := CD.out wd (Below.refl _ _)
                      go_quiet (fail)
                      rename_i nq
                      go_wp2_with fail
                      go_meet
                      exact ⟨by rw [E1.out], below_drewN _ _⟩
                    · have e2 := str_ne HSV.out hp
                      have e3 : v.isR = decide ((fs : Int) + 1 + sm ≤ c) := by rw [HIR.out]; simp [hp]
                      have E3 := Lib.hid e3
                      have t1 : IntKind.i64.wrap ((fs : Int) + 1) = (fs : Int) + 1 := IntWalk.i64_in _ (by omega)
                      have t2 : IntKind.i64.wrap ((fs : Int) + 1 + sm) = (fs : Int) + 1 + sm := IntWalk.i64_in _ (by omega)
                      have e2' : (!sv.toList.isEmpty) = true := by rw [e2]; rfl
                      clear e3 hp
                      go_region_held3 (fun w' => w'.cell? ⟨b8, 0, none⟩ = some (sptr sb) ∧ w'.cell? ⟨sb, 0, none⟩ = some (n64 c)) (first | exact CD.out _ wdd | exact CD.out _ (wdd.trans be))
                        ((go_at_call 44; (with_reducible refine (SV.out _).mono ?_); rintro e we ⟨rfl, be⟩))
                      go_wp2_with fail
                      go_meet
                      exact ⟨by rw [E3.out], wdd.trans be⟩
                case rest =>
                  as_aux_lemma =>
                    obtain ⟨rfl, hbe⟩ := hcut
                    have hbwc : B ≤ wc.heap.size := Nat.le_trans hbwd hbe.size
                    have DWc := HDd.out.later hbe hbwd
                    have SSc := HSd.out.later hbe
                    have C8 := DWc.x8.cell
                    have C3 := DWc.x3.cell
                    have C4 := DWc.x4.cell
                    have F3 := DWc.x3.frozen
                    have F4 := DWc.x4.frozen
                    obtain ⟨s0, s1, -, -, -, -⟩ := SSc.cells
                    rw [← HN.out] at s1
                    have m83 : b8 ≠ b3 := ne_of_types DWc.x8 DWc.x3 (by decide)
                    have m84 : b8 ≠ b4 := ne_of_types DWc.x8 DWc.x4 (by decide)
                    have ms3 : sb ≠ b3 := ne_of_types SSc.box DWc.x3 (by decide)
                    have ms4 : sb ≠ b4 := ne_of_types SSc.box DWc.x4 (by decide)
                    have HDW := Lib.hid DWc
                    have HSS := Lib.hid SSc
                    clear HDd HSd CD wdd hbe hbwd DWc SSc
                    by_cases hR : v.isR = true
                    · obtain ⟨hc2, hd0, hrw, hfit⟩ := v.right_is hR
                      rw [← HC.out] at hc2 hrw hfit
                      rw [← HPR.out] at hrw hfit
                      obtain ⟨rl, hrl⟩ : ∃ n, n = (rcells c (cuts pr)).length := ⟨_, rfl⟩
                      rw [← hrl] at hrw hfit
                      have hN0 : N = 0 := by rw [HN.out, hd0]; rfl
                      have hsm : sm = (rl : Int) := by rw [HSM.out]; exact hrw.symm
                      have e1 : v.drawn = [rightP c v.A (rcells c (cuts pr))] := by unfold ViewT.drawn; rw [hR, if_pos rfl, ← HC.out, ← HPR.out]
                      have E1 := Lib.hid e1
                      have ER := Lib.hid hR
                      have HRL := Lib.hid hrl
                      have HD0 := Lib.hid hd0
                      have hrc : rl ≤ c := by omega
                      have hzr : z + 1 + rl ≤ c := by rw [HZ.out]; exact hfit
                      subst hN0
                      subst hsm
                      rw [hR]
                      obtain ⟨wq, rfl⟩ : ∃ W : World, W = wc := ⟨_, rfl⟩
                      have CW := Lib.hid (fun (W : World) (hb : Below wq.heap.size wq W) => show W.cell? ⟨b8, 0, none⟩ = some (sptr sb) ∧ W.cell? ⟨sb, 0, none⟩ = some (n64 c) from ⟨(hb.cell (p := ⟨b8, 0, none⟩) HDW.out.x8.lt).trans C8, (hb.cell (p := ⟨sb, 0, none⟩) (lt_of_heap HSS.out.box)).trans s0⟩)
                      have wcd : Below wq.heap.size wq wq.drew := (Below.refl _ _).drew
                      have t1 : IntKind.i64.wrap ((c : Int) - (rl : Int)) = (c : Int) - (rl : Int) := IntWalk.i64_in _ (by omega)
                      clear hR e1 hrl hd0 hrw hfit HIR HFN HFS hws hcl hfc m83 m84 ms3 ms4 C3 C4 F3 F4 s1
                      have wca : Below wq.heap.size wq (wq.alloc (.cells #[.int .i64 0] 3)).drew := ((Below.refl _ wq).alloc (Nat.le_refl _) _).drew
                      obtain ⟨i1, i2⟩ := CW.out _ wcd
                      obtain ⟨j1, j2⟩ := CW.out _ wca
                      go_upto_region 26 with fail
                      go_cut [20] from 136 to 142 (fun s20 wx => ∃ b, s20 = bptr b ∧ Boxed wx b 3 (n64 (c - rl)) ∧ Below wq.heap.size wq wx ∧ wq.heap.size ≤ b)
                      case first =>
                        as_aux_lemma =>
                          refine wp_region_noPanic ?_
                          go_region_with (go_at_call 44; (with_reducible refine (SV.out _).mono ?_); rintro e we ⟨rfl, be⟩; first
                            | (have be2 : Below wq.heap.size wq we := wca.trans (be.mono wca.size); obtain ⟨k1, k2⟩ := CW.out _ be2; have bx : Boxed we wq.heap.size 3 (.int .i64 0) := (be.block _ (by simp)).trans (Boxed.new wq _ _); have k3 := bx.cell; have k4 := bx.frozen)
                            | (have be2 : Below wq.heap.size wq we := wcd.trans (be.mono wcd.size); obtain ⟨k1, k2⟩ := CW.out _ be2; obtain ⟨k5, k6⟩ := CW.out _ (be2.alloc be2.size (.cells #[.int .i64 0] 3))))
                          all_goals (refine NoPanic.normal ?_; go_wp2_with fail; go_meet)
                          all_goals
                            have E9 : Value.int .i64 ((c : Int) - (rl : Int)) = n64 (c - rl) := by congr 1; omega
                            rw [E9]
                            first
                              | exact ⟨_, rfl, Boxed.new _ _ _, be2.alloc be2.size _, be2.size⟩
                              | exact ⟨_, rfl, bx.set _, be2.setCell (p := ⟨wq.heap.size, 0, none⟩) (Nat.le_refl _) _, Nat.le_refl _⟩
                      case rest =>
                        as_aux_lemma =>
                          obtain ⟨b20, rfl, X20, hbf, hb20⟩ := hcut
                          have DF := HDW.out.later hbf hbwc
                          have SF := HSS.out.later hbf
                          have hbwF : B ≤ wc.heap.size := Nat.le_trans hbwc hbf.size
                          obtain ⟨r0', row0, e0, e0', hg0, -, hl0⟩ := SF.rowAt (k := 0) (by simp)
                          have eL : v.s3.done ++ [padP c v.A] = [padP c v.A] := by rw [HD0.out]; rfl
                          rw [eL, ← HN.out, Nat.zero_add] at SF
                          rw [eL] at DF
                          have HDF := Lib.hid DF
                          have HSF := Lib.hid SF
                          have HX20 := Lib.hid X20
                          have hB20 : B ≤ b20 := Nat.le_trans hbwc hb20
                          have BF : Below B w wc := DF.bel
                          have n320 : b3 ≠ b20 := by have := HDW.out.x3.lt; omega
                          have n420 : b4 ≠ b20 := by have := HDW.out.x4.lt; omega
                          clear DF SF X20 hbf HDW HSS CW SV wcd wca i1 i2 j1 j2 hbwc e0' hg0 row0 hl0 eL hb20 hzc t1
                          go_wp2_with (go_at_call 40; refine (Each_calls _ _).mono ?_; rintro e w' ⟨rfl, rfl⟩)
                          obtain ⟨wg, hwg⟩ : ∃ wg, wg = wc.alloc (.cells #[.string sv] 9) := ⟨_, rfl⟩
                          obtain ⟨bv, hbv⟩ : ∃ b, b = wc.heap.size := ⟨_, rfl⟩
                          have D6 : Below wc.heap.size wc wg := by rw [hwg]; exact (Below.refl _ wc).alloc (Nat.le_refl _) _
                          have YS : Boxed wg bv 9 (.string sv) := by rw [hwg, hbv]; exact Boxed.new wc _ _
                          rw [← hwg, ← hbv]
                          have DG := HDF.out.later D6 hbwF
                          have SG := HSF.out.later D6
                          have G20 : Boxed wg b20 3 (n64 (c - rl)) := (D6.block _ HX20.out.lt).trans HX20.out
                          have hbwg : B ≤ wg.heap.size := Nat.le_trans hbwF D6.size
                          have n20 : b20 ≠ bv := by rw [hbv]; exact Nat.ne_of_lt HX20.out.lt
                          clear hwg hbv D6 HDF HSF HX20 BF hbwF
                          have I0 : RgI (L := pr.length) wg B sb c z b20 (.slice (some ⟨g0, o0, none⟩) 1 cp0) rs (c - rl, padP c v.A) [] wg :=
                            ⟨HZ.out ▸ SG, G20, KpX.refl _ _ _⟩
                          refine (wpIn_wide (n := 9)).1 ?_
                          refine wpIn_rangeFunc_ownG rfl (by omega) (gf := 55) (lb := #[bptr bv]) rfl trivial (enters_of Tryd.func55 (by kernel_rfl) rfl)
                            (each_stops (9 - 1) (by omega) pr (by omega) bv wg _ HSV.out YS) KpE.t (KpE.b YS.lt) (Below.refl _ _) (fun _ => rfl)
                            (fun (pre : List (Cl pr.length)) W => RgI wg B sb c z b20 (.slice (some ⟨g0, o0, none⟩) 1 cp0) rs (c - rl, padP c v.A) pre W)
                            (fun _ _ _ => False)
                            (rgI_own hbwg hbwg (Nat.le_refl _))
                            (fun _ _ _ _ _ hs _ _ => hs)
                            I0
                            ?a3 ?assign3 ?body3 ?done3 ?stop3
                          case assign3 =>
                            intro yl x W K hK
                            unfold encs
                            gi_wp2
                            exact hK
                          case body3 =>
                            as_aux_lemma =>
                              rintro yl pre x W ⟨hS, h20, hK⟩ hlt
                              have hlen := rgX_len c (cls pre) (c - rl, padP c v.A) (by dsimp only; omega) (pad_len (by rw [HC.out]; exact v.A_le))
                              have Z8 : Boxed W b8 71 (sptr sb) := hK.off _ _ DG.x8 ns_ptr (fun e => ne_of_types DG.x8 G20 (by decide) e)
                              have ZV : Boxed W bv 9 (.string sv) := hK.off _ _ YS ns_str (fun e => n20 e.symm)
                              have hxl := x.2
                              have hsn := rgX_snoc c (cls pre) (c - rl, padP c v.A) x.1.2
                              rw [show cls pre ++ [x.1.2] = cls (pre ++ [x]) by simp [cls]] at hsn
                              obtain ⟨q, hq⟩ : ∃ q, q = rgX c (c - rl, padP c v.A) (cls pre) := ⟨_, rfl⟩
                              rw [← hq] at hS h20 hlen hsn
                              obtain ⟨y, row⟩ := q
                              dsimp only at hS h20 hlen hsn
                              have CL := Lib.hid (fun (Y : World) (hb : Below W.heap.size W Y) => cells_calls x.1.2 (by omega) false sb c Y ((hb.cell (p := ⟨sb, 0, none⟩) (lt_of_heap hS.box)).trans hS.cells.1) (Nat.lt_of_lt_of_le (lt_of_heap hS.box) hb.size))
                              have hc9 : W.cell? ⟨g0, o0, none⟩ = some (rowV c r0') := by
                                obtain ⟨A9, c9, hv9, -, -, hrd9, -⟩ := hS.out.rd
                                obtain ⟨g9, o9, ea, hc⟩ := hrd9 0 (rowV c r0') (by rw [List.getElem?_map, e0]; rfl)
                                subst ea
                                injection hv9 with h1 h2 h3
                                injection h1 with h1
                                injection h1 with h1 h4
                                subst h1 h4
                                exact hc
                              obtain ⟨hrw, hBr, -⟩ := hS.rows 0 r0' row e0 rfl
                              have hce := cells_len c x.1.2 false c1
                              obtain ⟨cs, hcs⟩ : ∃ cs, cs = cellsP c x.1.2 false := ⟨_, rfl⟩
                              rw [← hcs] at CL hsn hce
                              obtain ⟨k, hk⟩ : ∃ k, k = min cs.length (c - y) := ⟨_, rfl⟩
                              have hkc : y + k ≤ c := by omega
                              have hkn : cs.take (c - y) = cs.take k := by
                                rw [hk]
                                by_cases h : cs.length ≤ c - y
                                · rw [Nat.min_eq_left h, List.take_of_length_le h, List.take_of_length_le (Nat.le_refl _)]
                                · rw [Nat.min_eq_right (by omega)]
                              rw [hkn, ← hk] at hsn
                              have hkl : (cs.take k).length = k := by rw [List.length_take]; omega
                              have hrl9 : (splice row y (cs.take k)).length = c := by rw [splice_len (by rw [hkl, hlen.2]; exact hkc), hlen.2]
                              have FIN := Lib.hid (fun (Y : World) (hY : Below W.heap.size W Y) => Sht.row1 (hS.later hY) e0 hrl9 (Y := Y) rfl (Below.refl _ _))
                              have HC9 := Lib.hid (fun (Y : World) (hY : Below W.heap.size W Y) => show Y.cell? ⟨b8, 0, none⟩ = some (sptr sb) ∧ Y.cell? ⟨sb, 1, none⟩ = some (.slice (some ⟨g0, o0, none⟩) 1 cp0) ∧ Y.cell? ⟨g0, o0, none⟩ = some (rowV c r0') ∧ Y.cell? ⟨b20, 0, none⟩ = some (n64 y) ∧ Y.frozen? ⟨b20, 0, none⟩ = false from
                                ⟨(hY.cell (p := ⟨b8, 0, none⟩) Z8.lt).trans Z8.cell, (hY.cell (p := ⟨sb, 1, none⟩) (lt_of_heap hS.box)).trans hS.cells.2.1, (hY.cell (p := ⟨g0, o0, none⟩) (World.block_lt_of_cell? W _ hc9)).trans hc9, (hY.cell (p := ⟨b20, 0, none⟩) h20.lt).trans h20.cell, (hY.frozen (p := ⟨b20, 0, none⟩) h20.lt).trans h20.frozen⟩)
                              have CP9 := Lib.hid (fun (Y : World) (hY : Below W.heap.size W Y) (bq : Nat) (hq : Y.heap[bq]? = some (.cells (flatC cs).toArray 33 (0, 0))) (oo dL : Nat) (ho : oo * 3 ≤ row.length * 3) (hdl : oo + k ≤ c) (hoy : k = 0 ∨ oo = y) (hkd : min cs.length dL = k) (ty dc sc : Nat) =>
                                show (Builtin.copy_ #[31, 31] ty #[.slice (some ⟨r0', oo * 3, none⟩) dL dc, .slice (some ⟨bq, 0, none⟩) cs.length sc]).run Tryd.prog Y = .ok (goInt k) (Y.setRow r0' (flatC (splice row y (cs.take k))).toArray) by
                                  have hl : (flatC (cs.take k)).length = k * 3 := by rw [flatC_len, hkl]
                                  have := run_copy_sz (P := Tryd.prog) Y 31 31 ty 33 3 r0' (oo * 3) dL dc ⟨bq, 0, none⟩ cs.length sc (flatC row) 33 (flatC (cs.take k)) Tryd.underlying31 size_cell
                                    ((hY.block _ (lt_of_heap hrw)).trans hrw) k hkd hl (by rw [← flatC_take]; exact (rd_cells hq).take _) (by rw [hl, flatC_len, hlen.2]; omega) (flatC_one _)
                                  rw [this, flatC_splice]
                                  rcases hoy with h | h
                                  · subst h
                                    simp [splice]
                                  · rw [h])
                              obtain ⟨X, hX⟩ : ∃ X, X = (flatC (splice row y (cs.take k))).toArray := ⟨_, rfl⟩
                              rw [← hX] at FIN CP9
                              clear hX
                              have HSN := Lib.hid hsn
                              have HK := Lib.hid hK
                              have HV := Lib.hid ZV
                              have H20 := Lib.hid h20
                              have H8 := Lib.hid Z8
                              have wdd : Below W.heap.size W W.drew := (Below.refl _ _).drew
                              have hyc0 := hlen.1
                              have t4 : IntKind.i64.wrap ((y : Int) + (k : Int)) = (y : Int) + (k : Int) := IntWalk.i64_in _ (by omega)
                              have hcl3 := hlen.2
                              clear hsn hK ZV h20 hS hrw hBr Z8 hc9 hq hlt hxl hlen hce hkn hkl hrl9 hcs I0 G20 SG DG YS C8 s0 b5 hbn hrc hzr plr c120 c1 hc hDD hD1 hD2' n34 n43 hB3 hB4 hBs
                              obtain ⟨s8, hs8⟩ : ∃ s8, Value.slice (if c = y then some ⟨r0', 0, none⟩ else some ⟨r0', y * 3, none⟩) (c - y) (c - y) = s8 := ⟨_, rfl⟩
                              have CP8 := Lib.hid (fun (Y : World) (hY : Below W.heap.size W Y) (bq : Nat) (hq : Y.heap[bq]? = some (.cells (flatC cs).toArray 33 (0, 0))) (ty sc : Nat) =>
                                show (Builtin.copy_ #[31, 31] ty #[s8, .slice (some ⟨bq, 0, none⟩) cs.length sc]).run Tryd.prog Y = .ok (goInt k) (Y.setRow r0' X) by
                                  rw [← hs8]
                                  by_cases h : c = y
                                  · rw [if_pos h]
                                    have := CP9.out Y hY bq hq 0 (c - y) (by omega) (by omega) (.inl (by omega)) (by omega) ty (c - y) sc
                                    simpa using this
                                  · rw [if_neg h]
                                    exact CP9.out Y hY bq hq y (c - y) (by omega) (by omega) (.inr rfl) (by omega) ty (c - y) sc)
                              gi_wp2_with fail
                              have FX : ∀ (listed : Array Bool) (a : Act) (w : World), R29 W b8 b20 r0' X (str x.1.2) y k cs (fun bq => [n64 y, sptr sb, sptr sb, .pointer (some ⟨sb, 1, none⟩), .slice (some ⟨g0, o0, none⟩) 1 cp0, .pointer (some ⟨g0, o0, none⟩), rowV c r0', n64 y, s8, sptr sb, str x.1.2, .slice (some ⟨bq, 0, none⟩) cs.length cs.length, goInt k, n64 (y + k)]) listed a w → listed.getD 14 true = false → w.cell? ⟨b8, 0, none⟩ = some (sptr sb) ∧ w.cell? ⟨sb, 1, none⟩ = some (.slice (some ⟨g0, o0, none⟩) 1 cp0) ∧ w.cell? ⟨g0, o0, none⟩ = some (rowV c r0') ∧ w.cell? ⟨b20, 0, none⟩ = some (n64 y) ∧ w.frozen? ⟨b20, 0, none⟩ = false := by
                                intro listed a w hR h14
                                obtain ⟨bq, w7, -, hph⟩ := hR.ex
                                rcases hph with ⟨-, rfl⟩ | ⟨-, b7, hq, (⟨-, -, rfl⟩ | ⟨-, -, rfl⟩ | ⟨h, -⟩)⟩
                                · exact HC9.out _ wdd
                                · exact HC9.out _ b7
                                · obtain ⟨u1, u2, u3, u4, u5⟩ := HC9.out _ b7
                                  obtain ⟨FS, FK⟩ := FIN.out w7 b7
                                  have x20 : Boxed (w7.setRow r0' X) b20 3 (n64 y) := FK.off _ _ ((b7.block _ H20.out.lt).trans H20.out) ns_int
                                  exact ⟨Boxed.cell (t := 71) (FK.off _ _ ((b7.block _ H8.out.lt).trans H8.out) ns_ptr), FS.cells.2.1, FS.idx0 e0, x20.cell, x20.frozen⟩
                                · rw [h14] at h; cases h
                              refine region_inv hfo (R29 W b8 b20 r0' X (str x.1.2) y k cs (fun bq => [n64 y, sptr sb, sptr sb, .pointer (some ⟨sb, 1, none⟩), .slice (some ⟨g0, o0, none⟩) 1 cp0, .pointer (some ⟨g0, o0, none⟩), rowV c r0', n64 y, s8, sptr sb, str x.1.2, .slice (some ⟨bq, 0, none⟩) cs.length cs.length, goInt k, n64 (y + k)])) ?_ ?_ ?_
                              · refine ⟨rfl, rfl, rfl, rfl, 0, W, fun j u hj hl => ?_, .inl ⟨rfl, rfl⟩⟩
                                have hj14 : j < 14 := by have := (List.getElem?_eq_some_iff.1 hj).1; simpa using this
                                have hj15 : j < 15 := by omega
                                have hz : (Array.replicate 15 false).getD j true = false := by simp [hj15]
                                exact absurd (hz.symm.trans hl) (by decide)
                              · intro listed a w i hclo hR hi
                                obtain ⟨hu, o, ho, hdep⟩ := mem_ready.1 hi
                                have hi15 : i < 15 := by have := (Array.getElem?_eq_some_iff.1 ho).1; simpa using this
                                have h14 : ∀ j, j < 14 → listed.getD j true = false → listed.getD 14 true = false := fun j hj hu' => by
                                  cases hL : listed.getD 14 true with
                                  | false => rfl
                                  | true =>
                                    have := hclo.2 14 _ rfl hL ⟨j, .phase⟩ (by rcases (by omega : j = 0 ∨ j = 1 ∨ j = 2 ∨ j = 3 ∨ j = 4 ∨ j = 5 ∨ j = 6 ∨ j = 7 ∨ j = 8 ∨ j = 9 ∨ j = 10 ∨ j = 11 ∨ j = 12 ∨ j = 13) with rfl | rfl | rfl | rfl | rfl | rfl | rfl | rfl | rfl | rfl | rfl | rfl | rfl | rfl <;> simp) rfl
                                    rw [hu'] at this; cases this
                                obtain rfl | rfl | rfl | rfl | rfl | rfl | rfl | rfl | rfl | rfl | rfl | rfl | rfl | rfl | rfl : i = 0 ∨ i = 1 ∨ i = 2 ∨ i = 3 ∨ i = 4 ∨ i = 5 ∨ i = 6 ∨ i = 7 ∨ i = 8 ∨ i = 9 ∨ i = 10 ∨ i = 11 ∨ i = 12 ∨ i = 13 ∨ i = 14 := by omega
                                · obtain ⟨f1, f2, f3, f4, f5⟩ := FX _ _ _ hR (h14 _ (by omega) hu)
                                  obtain ⟨bz, wz, hval, -⟩ := hR.ex
                                  refine step_val (v := n64 y) (w' := w) rfl rfl (by intro c h; cases h) rfl ?_ ?_
                                  · simp [go_sem, hR.e20, hR.e8, hR.e22, f1, f2, f3, f4]
                                  · exact hR.put (i := 0) hu (by omega) (by omega) (by omega) (fun _ => rfl)
                                · obtain ⟨f1, f2, f3, f4, f5⟩ := FX _ _ _ hR (h14 _ (by omega) hu)
                                  obtain ⟨bz, wz, hval, -⟩ := hR.ex
                                  refine step_val (v := sptr sb) (w' := w) rfl rfl (by intro c h; cases h) rfl ?_ ?_
                                  · simp [go_sem, hR.e20, hR.e8, hR.e22, f1, f2, f3, f4]
                                  · exact hR.put (i := 1) hu (by omega) (by omega) (by omega) (fun _ => rfl)
                                · obtain ⟨f1, f2, f3, f4, f5⟩ := FX _ _ _ hR (h14 _ (by omega) hu)
                                  obtain ⟨bz, wz, hval, -⟩ := hR.ex
                                  have d1 := hval 1 _ rfl (getD_tf (hdep ⟨1, .data⟩ (by cases ho; simp) rfl))
                                  refine step_val (v := sptr sb) (w' := w) rfl rfl (by intro c h; cases h) rfl ?_ ?_
                                  · simp [go_sem, hR.e20, hR.e8, hR.e22, f1, f2, f3, f4, d1]
                                  · exact hR.put (i := 2) hu (by omega) (by omega) (by omega) (fun _ => rfl)
                                · obtain ⟨f1, f2, f3, f4, f5⟩ := FX _ _ _ hR (h14 _ (by omega) hu)
                                  obtain ⟨bz, wz, hval, -⟩ := hR.ex
                                  have d2 := hval 2 _ rfl (getD_tf (hdep ⟨2, .data⟩ (by cases ho; simp) rfl))
                                  refine step_val (v := .pointer (some ⟨sb, 1, none⟩)) (w' := w) rfl rfl (by intro c h; cases h) rfl ?_ ?_
                                  · simp [go_sem, hR.e20, hR.e8, hR.e22, f1, f2, f3, f4, d2]
                                  · exact hR.put (i := 3) hu (by omega) (by omega) (by omega) (fun _ => rfl)
                                · obtain ⟨f1, f2, f3, f4, f5⟩ := FX _ _ _ hR (h14 _ (by omega) hu)
                                  obtain ⟨bz, wz, hval, -⟩ := hR.ex
                                  have d3 := hval 3 _ rfl (getD_tf (hdep ⟨3, .data⟩ (by cases ho; simp) rfl))
                                  refine step_val (v := .slice (some ⟨g0, o0, none⟩) 1 cp0) (w' := w) rfl rfl (by intro c h; cases h) rfl ?_ ?_
                                  · simp [go_sem, hR.e20, hR.e8, hR.e22, f1, f2, f3, f4, d3]
                                  · exact hR.put (i := 4) hu (by omega) (by omega) (by omega) (fun _ => rfl)
                                · obtain ⟨f1, f2, f3, f4, f5⟩ := FX _ _ _ hR (h14 _ (by omega) hu)
                                  obtain ⟨bz, wz, hval, -⟩ := hR.ex
                                  have d4 := hval 4 _ rfl (getD_tf (hdep ⟨4, .data⟩ (by cases ho; simp) rfl))
                                  refine step_val (v := .pointer (some ⟨g0, o0, none⟩)) (w' := w) rfl rfl (by intro c h; cases h) rfl ?_ ?_
                                  · simp [go_sem, hR.e20, hR.e8, hR.e22, f1, f2, f3, f4, d4]
                                  · exact hR.put (i := 5) hu (by omega) (by omega) (by omega) (fun _ => rfl)
                                · obtain ⟨f1, f2, f3, f4, f5⟩ := FX _ _ _ hR (h14 _ (by omega) hu)
                                  obtain ⟨bz, wz, hval, -⟩ := hR.ex
                                  have d5 := hval 5 _ rfl (getD_tf (hdep ⟨5, .data⟩ (by cases ho; simp) rfl))
                                  refine step_val (v := rowV c r0') (w' := w) rfl rfl (by intro c h; cases h) rfl ?_ ?_
                                  · simp [go_sem, hR.e20, hR.e8, hR.e22, f1, f2, f3, f4, d5]
                                  · exact hR.put (i := 6) hu (by omega) (by omega) (by omega) (fun _ => rfl)
                                · obtain ⟨f1, f2, f3, f4, f5⟩ := FX _ _ _ hR (h14 _ (by omega) hu)
                                  obtain ⟨bz, wz, hval, -⟩ := hR.ex
                                  refine step_val (v := n64 y) (w' := w) rfl rfl (by intro c h; cases h) rfl ?_ ?_
                                  · simp [go_sem, hR.e20, hR.e8, hR.e22, f1, f2, f3, f4]
                                  · exact hR.put (i := 7) hu (by omega) (by omega) (by omega) (fun _ => rfl)
                                · obtain ⟨f1, f2, f3, f4, f5⟩ := FX _ _ _ hR (h14 _ (by omega) hu)
                                  obtain ⟨bz, wz, hval, -⟩ := hR.ex
                                  have d6 := hval 6 _ rfl (getD_tf (hdep ⟨6, .data⟩ (by cases ho; simp) rfl))
                                  have d7 := hval 7 _ rfl (getD_tf (hdep ⟨7, .data⟩ (by cases ho; simp) rfl))
                                  refine step_val (v := s8) (w' := w) rfl rfl (by intro c h; cases h) rfl ?_ ?_
                                  · simp [go_sem, hR.e20, hR.e8, hR.e22, f1, f2, f3, f4, d6, d7, hs8, hyc0]
                                  · exact hR.put (i := 8) hu (by omega) (by omega) (by omega) (fun _ => rfl)
                                · obtain ⟨f1, f2, f3, f4, f5⟩ := FX _ _ _ hR (h14 _ (by omega) hu)
                                  obtain ⟨bz, wz, hval, -⟩ := hR.ex
                                  refine step_val (v := sptr sb) (w' := w) rfl rfl (by intro c h; cases h) rfl ?_ ?_
                                  · simp [go_sem, hR.e20, hR.e8, hR.e22, f1, f2, f3, f4]
                                  · exact hR.put (i := 9) hu (by omega) (by omega) (by omega) (fun _ => rfl)
                                · obtain ⟨f1, f2, f3, f4, f5⟩ := FX _ _ _ hR (h14 _ (by omega) hu)
                                  obtain ⟨bz, wz, hval, -⟩ := hR.ex
                                  refine step_val (v := str x.1.2) (w' := w) rfl rfl (by intro c h; cases h) rfl ?_ ?_
                                  · simp [go_sem, hR.e20, hR.e8, hR.e22, f1, f2, f3, f4]
                                  · exact hR.put (i := 10) hu (by omega) (by omega) (by omega) (fun _ => rfl)
                                · obtain ⟨bz, wz, hval, hph⟩ := hR.ex
                                  have d9 := hval 9 _ rfl (getD_tf (hdep ⟨9, .data⟩ (by cases ho; simp) rfl))
                                  have d10 := hval 10 _ rfl (getD_tf (hdep ⟨10, .data⟩ (by cases ho; simp) rfl))
                                  have hw : w = W.drew := by
                                    rcases hph with ⟨_, h⟩ | ⟨h, _⟩
                                    · exact h
                                    · rw [hu] at h; cases h
                                  subst hw
                                  refine step_calls (f := 45) (args := #[sptr sb, str x.1.2, .bool false]) (w' := W.drew) rfl rfl (by intro c h; cases h) (fun _ => trivial) ?_ (fun h => by cases h) ?_
                                  · simp [go_sem, d9, d10]
                                  · refine (CallsIn.inRound yl (callsIn_wide.2 (CL.out _ wdd))).mono ?_
                                    rintro e w7 ⟨bq, rfl, hbq, hcb, b7⟩
                                    refine ⟨_, rfl, ?_⟩
                                    have h12 : listed.getD 12 true = false := by
                                      cases hL : listed.getD 12 true with
                                      | false => rfl
                                      | true =>
                                        have := hclo.2 12 _ rfl hL ⟨11, .data⟩ (by simp) rfl
                                        rw [hu] at this; cases this
                                    exact hR.call (bq := bq) (w7 := w7) hu h12 (h14 11 (by omega) hu) (wdd.trans b7) hcb rfl (fun b b' j hj => by
                                      match j with
                                      | 0 => rfl
                                      | 1 => rfl
                                      | 2 => rfl
                                      | 3 => rfl
                                      | 4 => rfl
                                      | 5 => rfl
                                      | 6 => rfl
                                      | 7 => rfl
                                      | 8 => rfl
                                      | 9 => rfl
                                      | 10 => rfl
                                      | 11 => exact absurd rfl hj
                                      | 12 => rfl
                                      | 13 => rfl
                                      | (n + 14) => rfl)
                                · obtain ⟨bz, wz, hval, hph⟩ := hR.ex
                                  have l11 := getD_tf (hdep ⟨11, .data⟩ (by cases ho; simp) rfl)
                                  have d8 := hval 8 _ rfl (getD_tf (hdep ⟨8, .data⟩ (by cases ho; simp) rfl))
                                  have d11 := hval 11 _ rfl l11
                                  have h140 := h14 12 (by omega) hu
                                  rcases hph with ⟨h, _⟩ | ⟨_, b7, hq, (⟨_, _, rfl⟩ | ⟨h, _⟩ | ⟨h, _⟩)⟩
                                  · rw [l11] at h; cases h
                                  · have CP := CP8.out w b7 bz hq
                                    refine step_val (v := goInt k) (w' := w.setRow r0' X) rfl rfl (by intro c h; cases h) (by simp [Oper.about, go_sem]) ?_ ?_
                                    · simp [go_sem, d8, d11, CP]
                                    · exact hR.copy hu l11 h140 (fun _ => rfl)
                                  · rw [hu] at h; cases h
                                  · rw [h140] at h; cases h
                                · obtain ⟨f1, f2, f3, f4, f5⟩ := FX _ _ _ hR (h14 _ (by omega) hu)
                                  obtain ⟨bz, wz, hval, -⟩ := hR.ex
                                  have d0 := hval 0 _ rfl (getD_tf (hdep ⟨0, .data⟩ (by cases ho; simp) rfl))
                                  have d12 := hval 12 _ rfl (getD_tf (hdep ⟨12, .data⟩ (by cases ho; simp) rfl))
                                  refine step_val (v := n64 (y + k)) (w' := w) rfl rfl (by intro c h; cases h) rfl ?_ ?_
                                  · simp [go_sem, hR.e20, hR.e8, hR.e22, f1, f2, f3, f4, d0, d12, goInt, t4]
                                  · exact hR.put (i := 13) hu (by omega) (by omega) (by omega) (fun _ => rfl)
                                · obtain ⟨f1, f2, f3, f4, f5⟩ := FX _ _ _ hR hu
                                  obtain ⟨bz, wz, hval, -⟩ := hR.ex
                                  have d13 := hval 13 _ rfl (getD_tf (hdep ⟨13, .data⟩ (by cases ho; simp) rfl))
                                  have l12 := getD_tf (hdep ⟨12, .phase⟩ (by cases ho; simp) rfl)
                                  have l11 := getD_tf (hdep ⟨11, .phase⟩ (by cases ho; simp) rfl)
                                  refine step_skip_ (w' := w.setCell ⟨b20, 0, none⟩ (n64 (y + k))) rfl rfl (by intro c h; cases h) rfl ?_ ?_
                                  · simp [go_sem, hR.e20, d13, f4, f5]
                                    rw [show Value.int .i64 ((y : Int) + (k : Int)) = n64 (y + k) from by simp]
                                  · exact hR.store hu l11 l12 (fun _ => Nat.le_refl _)
                              · intro listed a w hclo hR hr
                                have l14 := ready_nil (by kernel_rfl) hclo.1 hr 14 (by simp)
                                obtain ⟨bq, w7, -, hph⟩ := hR.ex
                                have hw : Below W.heap.size W w7 ∧ w = (w7.setRow r0' X).setCell ⟨b20, 0, none⟩ (n64 (y + k)) := by
                                  have l11 := hclo.2 14 _ rfl l14 ⟨11, .phase⟩ (by simp) rfl
                                  rcases hph with ⟨h, _⟩ | ⟨_, b7, hq, (⟨_, h, _⟩ | ⟨_, h, _⟩ | ⟨_, e⟩)⟩
                                  · rw [l11] at h; cases h
                                  · rw [l14] at h; cases h
                                  · rw [l14] at h; cases h
                                  · exact ⟨b7, e⟩
                                obtain ⟨b7, rfl⟩ := hw
                                obtain ⟨FS, FK⟩ := FIN.out w7 b7
                                have x20 : Boxed (w7.setRow r0' X) b20 3 (n64 y) := FK.off _ _ ((b7.block _ H20.out.lt).trans H20.out) ns_int
                                have hBW : B ≤ W.heap.size := Nat.le_trans hbwg HK.out.bel.size
                                have kx : KpX B (fun k => k = b20) W ((w7.setRow r0' X).setCell ⟨b20, 0, none⟩ (n64 (y + k))) := KpX.setCell (X := fun k => k = b20) (KpX.of ((KpS.of_below b7 hBW).trans FK)) hB20 rfl 0 _
                                have ko := kx.others (fun k hk => by subst hk; exact ⟨_, _, _, H20.out⟩)
                                have eI : RgI wg B sb c z b20 (.slice (some ⟨g0, o0, none⟩) 1 cp0) rs (c - rl, padP c v.A) (pre ++ [x]) ((w7.setRow r0' X).setCell ⟨b20, 0, none⟩ (n64 (y + k))) := by
                                  refine ⟨?_, ?_, HK.out.trans kx⟩
                                  · rw [HSN.out]; exact FS.setCell (i := 0) x20 ns_int _
                                  · rw [HSN.out]; exact x20.set _
                                exact ⟨ko.from _, ⟨keepsWalks_of ko, (kx.off bv _ HV.out ns_str (fun e => n20 e.symm)).trans (show W.heap[bv]? = _ from HV.out).symm⟩, eI⟩
                          case done3 =>
                            as_aux_lemma =>
                              rintro D3 ys W hD3 hys ⟨hS, h20, hK⟩ hKd3
                              rw [cls_val hys] at hS
                              have hrt := rgX_right (c := c) (A := v.A) (l := cuts pr) (by rw [← HRL.out, ← HZ.out]; exact hzr)
                              rw [← HRL.out] at hrt
                              rw [hrt] at hS
                              dsimp only at hS
                              have nd : ∀ D : Nat, wg.heap[D]? = some (.deferred (some [])) → ¬ D = b20 := fun D h e => by rw [e, show wg.heap[b20]? = _ from G20] at h; cases h
                              have DW : DwS w W B sb c b1 b3 b4 b8 D1 D2 v [rightP c v.A (rcells c (cuts pr))] z v.cursor :=
                                ⟨⟨_, _, hS⟩, hK.off _ _ DG.x3 ns_int n320, hK.off _ _ DG.x4 ns_int n420, hK.off _ _ DG.x8 ns_ptr (fun e => ne_of_types DG.x8 G20 (by decide) e), hK.off _ _ DG.vw ns_view (fun e => ne_of_types DG.vw G20 (by decide) e),
                                  hK.off _ _ DG.k1 trivial (nd _ DG.k1), hK.off _ _ DG.k2 trivial (nd _ DG.k2), DG.bel.trans hK.bel⟩
                              have nk1 : D1 ≠ D3 := by have := lt_of_heap DG.k1; omega
                              have nk2 : D2 ≠ D3 := by have := lt_of_heap DG.k2; omega
                              have hBD3 : B ≤ D3 := Nat.le_trans hbwg hD3
                              have C8 := DW.x8.cell
                              have C3 := DW.x3.cell
                              have C4 := DW.x4.cell
                              have F3 := DW.x3.frozen
                              have F4 := DW.x4.frozen
                              have s1 := hS.cells.2.1
                              have m83 : b8 ≠ b3 := ne_of_types DW.x8 DW.x3 (by decide)
                              have m84 : b8 ≠ b4 := ne_of_types DW.x8 DW.x4 (by decide)
                              have ms3 : sb ≠ b3 := ne_of_types hS.box DW.x3 (by decide)
                              have ms4 : sb ≠ b4 := ne_of_types hS.box DW.x4 (by decide)
                              have HDW := Lib.hid DW
                              have HSS := Lib.hid hS
                              have HK3 := Lib.hid hKd3
                              clear DW hS h20 hK hys hrt nd DG SG G20 YS I0 hKd3 hD3
                              obtain ⟨p1, hp1⟩ : ∃ x, x = v.cursor.1 := ⟨_, rfl⟩
                              obtain ⟨p2, hp2⟩ : ∃ x, x = v.cursor.2 := ⟨_, rfl⟩
                              rw [← hp1] at C3
                              rw [← hp2] at C4
                              have HP1 := Lib.hid hp1
                              have HP2 := Lib.hid hp2
                              clear hp1 hp2
                              go_wp2_with fail
                              go_region
                              go_wp2_with fail
                              rw [HP1.out, HP2.out]
                              have SF := Sht.store2 HDW.out HSS.out n34 (q := v.cursor)
                              have DF := DwS.store2 HDW.out n34 hB3 hB4 (q := v.cursor)
                              have hBF : B ≤ ((W.setCell ⟨b3, 0, none⟩ (n64 v.cursor.1)).setCell ⟨b4, 0, none⟩ (n64 v.cursor.2)).drew.heap.size := by rw [HB.out]; have := DF.bel.size; exact this
                              have k3 : ((W.setCell ⟨b3, 0, none⟩ (n64 v.cursor.1)).setCell ⟨b4, 0, none⟩ (n64 v.cursor.2)).drew.heap[D3]? = some (.deferred (some [])) := by
                                have a3 : D3 ≠ b3 := fun e => by have := HK3.out; rw [e, show W.heap[b3]? = _ from HDW.out.x3] at this; cases this
                                have a4 : D3 ≠ b4 := fun e => by have := HK3.out; rw [e, show W.heap[b4]? = _ from HDW.out.x4] at this; cases this
                                exact ((heap_setCell_other _ _ _ _ a4).trans (heap_setCell_other _ _ _ _ a3)).trans HK3.out
                              have DM := DF.mark k3 nk1 nk2 hBD3 hBF
                              have SM := SF.keep (CellsKept.putObj (.deferred none) k3 rfl)
                              obtain ⟨f1, f2, f3, f4, f5⟩ := DM.fin SM hDD hD1 hD2' (by rw [HB.out]; have := DM.bel.size; exact this)
                              refine ⟨by simp, .inl ⟨_, _, rfl, run_takeDeferred k3, ⟨by simp, .inl ⟨_, _, rfl, run_takeDeferred DM.k2, ⟨by simp, .inl ⟨_, _, rfl, run_takeDeferred f1, ?_⟩⟩⟩⟩⟩⟩
                              rw [E1.out, ER.out, ← HC.out, ← HB.out]
                              exact ⟨_, results_mix rfl rfl rfl (run_intVar _ _ _ f2) (run_intVar _ _ _ f3), _, _, rfl, f4, f5⟩
                          case stop3 =>
                            rintro D c pre W _ _ h _
                            exact h.elim
                    · have hR' : v.isR = false := by simpa using hR
                      have e1 : v.drawn = v.s3.done ++ [padP c v.A] := by unfold ViewT.drawn; rw [hR', if_neg (by decide), HC.out]
                      have E1 := Lib.hid e1
                      rw [hR']
                      have ER := Lib.hid hR'
                      clear hR hR' e1 HIR HFN HFS HPR HSM hws hcl hfc plr hzc s0
                      obtain ⟨p1, hp1⟩ : ∃ x, x = v.cursor.1 := ⟨_, rfl⟩
                      obtain ⟨p2, hp2⟩ : ∃ x, x = v.cursor.2 := ⟨_, rfl⟩
                      rw [← hp1] at C3
                      rw [← hp2] at C4
                      have HP1 := Lib.hid hp1
                      have HP2 := Lib.hid hp2
                      clear hp1 hp2
                      go_wp2_with fail
                      go_region
                      go_wp2_with fail
                      rw [HP1.out, HP2.out]
                      have SF := Sht.store2 HDW.out HSS.out n34 (q := v.cursor)
                      have DF := DwS.store2 HDW.out n34 hB3 hB4 (q := v.cursor)
                      obtain ⟨f1, f2, f3, f4, f5⟩ := DF.fin SF hDD hD1 hD2' (by rw [HB.out]; have := DF.bel.size; exact this)
                      refine ⟨by simp, .inl ⟨_, _, rfl, run_takeDeferred DF.k2, ⟨by simp, .inl ⟨_, _, rfl, run_takeDeferred f1, ?_⟩⟩⟩⟩
                      rw [E1.out, ER.out, ← HC.out, ← HB.out]
                      rw [← HN.out] at f4
                      exact ⟨_, results_mix rfl rfl rfl (run_intVar _ _ _ f2) (run_intVar _ _ _ f3), _, _, rfl, f4, f5⟩
      case stop2 =>
        rintro D c pre W _ _ h _
        exact h.elim
  case stop =>
    rintro D c pre W _ _ h _
    exact h.elim
end Go.Proofs.YtfgjhfmgacopoaaDoor
