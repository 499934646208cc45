import Derived.Test.YtfgjhfmgacopoaaDoorLo3
import Derived.Deep.RegionHeld3
namespace Go.Proofs.YtfgjhfmgacopoaaDoor
set_option linter.unusedVariables false
set_option linter.unusedSimpArgs false
open Go.RowKit Go.Shelf
/-! Chapter 18: a sheet in memory; what is kept beside it; a cluster's cells. -/
def NotS (T : TypeId) : Prop := T ≠ 33 ∧ T ≠ 31 ∧ T ≠ 73
def OffS : Obj → Prop
  | .cells _ T _ => NotS T
  | _ => True
structure KpS (B : Nat) (w w' : World) : Prop where
  bel : Below B w w'
  off : ∀ (k : Nat) (o : Obj), w.heap[k]? = some o → OffS o → w'.heap[k]? = some o
theorem KpS.refl (B : Nat) (w : World) : KpS B w w := ⟨Below.refl _ _, fun _ _ h _ => h⟩
theorem KpS.trans {B : Nat} {a b c : World} (h : KpS B a b) (k : KpS B b c) : KpS B a c := ⟨h.bel.trans k.bel, fun j o e f => k.off j o (h.off j o e f) f⟩
theorem KpS.of_below {B : Nat} {w w' : World} (h : Below w.heap.size w w') (hB : B ≤ w.heap.size) : KpS B w w' := ⟨h.mono hB, fun k o e _ => (h.block k (lt_of_heap e)).trans e⟩
theorem KpS.then {B : Nat} {a b c : World} (h : KpS B a b) (k : Below b.heap.size b c) (hB : B ≤ a.heap.size) : KpS B a c := h.trans (.of_below k (Nat.le_trans hB h.bel.size))
theorem KpS.drew {B : Nat} {a b : World} (h : KpS B a b) : KpS B a b.drew := ⟨h.bel.drew, h.off⟩
theorem KpS.setCell {B : Nat} {a b : World} (h : KpS B a b) {g i : Nat} {cs : Array Value} {T : TypeId} {m : Nat × Nat} (hg : b.heap[g]? = some (.cells cs T m)) (hT : ¬ NotS T) (hB : B ≤ g) (v : Value) : KpS B a (b.setCell ⟨g, i, none⟩ v) :=
  ⟨h.bel.setCell hB v, fun k o e f => by
    have e' := h.off k o e f
    by_cases hk : k = g
    · subst hk; rw [hg] at e'; cases e'; exact absurd f hT
    · rw [heap_setCell_other _ _ _ _ hk]; exact e'⟩
theorem KpS.setRow {B : Nat} {a b : World} (h : KpS B a b) {g : Nat} {cs : Array Value} {T : TypeId} {m : Nat × Nat} (hg : b.heap[g]? = some (.cells cs T m)) (hT : ¬ NotS T) (hB : B ≤ g) (c : Array Value) : KpS B a (b.setRow g c) :=
  ⟨setRow_below h.bel _ _ hB, fun k o e f => by
    have e' := h.off k o e f
    by_cases hk : k = g
    · subst hk; rw [hg] at e'; cases e'; exact absurd f hT
    · rw [setRow_other _ _ _ _ hk]; exact e'⟩
theorem KpS.grown {B : Nat} {a b c : World} (h : KpS B a b) {v : Value} {n : Nat} {xs : List Value} {e : TypeId} {sz D : Nat} (hr : Row b D e sz v n xs) (hD : B ≤ D) (hB : B ≤ b.heap.size) (he : ¬ NotS e) (hg : b.grownBy c v.ownBlock) : KpS B a c :=
  ⟨h.bel.grown hg hB (fun k ek => Nat.le_trans hD (hr.lt k ek).1), fun k o ek f => by
    have e' := h.off k o ek f
    by_cases hn : v.ownBlock = some k
    · rcases hr.2 with ⟨rfl, _⟩ | ⟨g, off, cap, cur, rfl, hb, hg, _⟩
      · simp [Value.ownBlock] at hn
      · simp [Value.ownBlock] at hn
        subst hn; rw [hg] at e'; cases e'; exact absurd f he
    · exact (hg.block k (lt_of_heap e') (fun e => hn e.symm)).trans e'⟩
abbrev rowV (cols r : Nat) : Value := .slice (some ⟨r, 0, none⟩) cols cols
/-- A sheet: its box, the slice of its rows, each row's block. -/
structure Sht (w : World) (B sb cols : Nat) (L : List RowT) (col : Nat) (v : Value) (rs : List Nat) : Prop where
  box : w.heap[sb]? = some (.cells #[n64 cols, v, n64 col] 73 (0, 0))
  hB : B ≤ sb
  out : Row w B 31 1 v L.length (rs.map (rowV cols))
  rl : rs.length = L.length
  rows : ∀ (k r : Nat) (l : RowT), rs[k]? = some r → L[k]? = some l → w.heap[r]? = some (.cells (flatC l).toArray 33 (0, 0)) ∧ B ≤ r ∧ l.length = cols
  nd : rs.Nodup
theorem ns_sheet : ¬ NotS 73 := fun h => h.2.2 rfl
theorem ns_rows : ¬ NotS 31 := fun h => h.2.1 rfl
theorem ns_cell : ¬ NotS 33 := fun h => h.1 rfl
theorem Sht.rowAt {w : World} {B sb cols : Nat} {L : List RowT} {col : Nat} {v : Value} {rs : List Nat} (h : Sht w B sb cols L col v rs) {k : Nat} (hk : k < L.length) :
    ∃ r l, rs[k]? = some r ∧ L[k]? = some l ∧ w.heap[r]? = some (.cells (flatC l).toArray 33 (0, 0)) ∧ B ≤ r ∧ l.length = cols := by
  have hr : k < rs.length := by rw [h.rl]; exact hk
  exact ⟨rs[k], L[k], List.getElem?_eq_getElem hr, List.getElem?_eq_getElem hk, h.rows k _ _ (List.getElem?_eq_getElem hr) (List.getElem?_eq_getElem hk)⟩
theorem Sht.later {w w' : World} {B sb cols : Nat} {L : List RowT} {col : Nat} {v : Value} {rs : List Nat} (h : Sht w B sb cols L col v rs) (hb : Below w.heap.size w w') : Sht w' B sb cols L col v rs :=
  ⟨(hb.block sb (lt_of_heap h.box)).trans h.box, h.hB, h.out.below hb (Nat.le_refl _), h.rl, fun k r l e f => by
    obtain ⟨x, y, z⟩ := h.rows k r l e f
    exact ⟨(hb.block r (lt_of_heap x)).trans x, y, z⟩, h.nd⟩
theorem Sht.cells {w : World} {B sb cols : Nat} {L : List RowT} {col : Nat} {v : Value} {rs : List Nat} (h : Sht w B sb cols L col v rs) :
    w.cell? ⟨sb, 0, none⟩ = some (n64 cols) ∧ w.cell? ⟨sb, 1, none⟩ = some v ∧ w.cell? ⟨sb, 2, none⟩ = some (n64 col) ∧
    w.frozen? ⟨sb, 0, none⟩ = false ∧ w.frozen? ⟨sb, 1, none⟩ = false ∧ w.frozen? ⟨sb, 2, none⟩ = false := by
  have hb := h.box
  simp [World.cell?, World.frozen?, hb]
abbrev sptr (sb : Nat) : Value := .pointer (some ⟨sb, 0, none⟩)
theorem cells_n (cols : Nat) (c : Bs) (d : Bool) : (flatC (cellsP cols c d)).length = (cellsP cols c d).length * 3 := flatC_len _
theorem rd_cells {w : World} {b : Nat} {l : List Value} {T : TypeId} (h : w.heap[b]? = some (.cells l.toArray T (0, 0))) : Rd w (some ⟨b, 0, none⟩) l := fun k u hk => ⟨b, 0, rfl, by
  rw [Nat.zero_add, cell_of_row _ _ _ _ _ (0, 0) h]
  simpa using hk⟩
set_option maxHeartbeats 1600000 in
set_option maxRecDepth 100000 in
/-- A cluster's cells, in a slice of the call's own. -/
theorem cells_calls (c : Bs) (hc : c.length ≤ 100000) (d : Bool) (sb cols : Nat) (w : World) (h0 : w.cell? ⟨sb, 0, none⟩ = some (n64 cols)) (hlt : sb < w.heap.size) :
    Calls Tryd.prog 45 #[sptr sb, str c, .bool d] w fun e w' => ∃ b, e = .returned (.slice (some ⟨b, 0, none⟩) (cellsP cols c d).length (cellsP cols c d).length) ∧ w.heap.size ≤ b ∧
      w'.heap[b]? = some (.cells (flatC (cellsP cols c d)).toArray 33 (0, 0)) ∧ Below w.heap.size w w' := by
  have WD := Lib.hid (fun W => Wide_calls c (by omega) _ rfl W)
  have SH := Lib.hid (fun W => Show_calls c (by omega) _ rfl W)
  have HC := Lib.hid (fun (W : World) (hb : Below w.heap.size w W) => show W.cell? ⟨sb, 0, none⟩ = some (n64 cols) from (hb.cell hlt).trans h0)
  have hwc := wid_le c
  by_cases h1 : wid c = 1
  · have HP := Lib.hid (show cellsP cols c d = [⟨shown c, 1, d⟩] by unfold cellsP; rw [if_pos h1])
    rw [HP.out]
    rw [h1] at WD
    clear hwc h1 h0
    go_enter Tryd.func45, Tryd.ntmps45
    go_wp2_with (first
      | (refine (WD.out _).mono ?_; rintro e w1 ⟨rfl, b1⟩)
      | (refine (SH.out _).mono ?_; rintro e w2 ⟨rfl, b2⟩))
    go_ret
    exact ⟨_, rfl, Nat.le_trans b1.size b2.size, heap_alloc_new _ _, (b1.trans (b2.mono b1.size)).alloc (Nat.le_trans b1.size b2.size) _⟩
  · have h1' : decide (wid c = 1) = false := by simpa using h1
    obtain ⟨x, hx⟩ : ∃ x, x = wid c := ⟨_, rfl⟩
    rw [← hx] at h1 h1' WD
    by_cases h2 : cols = 1
    · have HP := Lib.hid (show cellsP cols c d = [⟨wrongB, 1, d⟩] by unfold cellsP; rw [if_neg (by rw [← hx]; exact h1), if_pos h2])
      rw [HP.out]
      have hw : (⟨#[239, 191, 189]⟩ : ByteArray) = ⟨wrongB.toArray⟩ := rfl
      subst h2
      clear hwc h0 hx
      go_enter Tryd.func45, Tryd.ntmps45
      go_wp2_with (first
        | (refine (WD.out _).mono ?_; rintro e w1 ⟨rfl, b1⟩; have hc1 := HC.out w1 b1))
      go_ret
      exact ⟨_, rfl, b1.size, heap_alloc_new _ _, b1.alloc b1.size _⟩
    · have HP := Lib.hid (show cellsP cols c d = [⟨shown c, 2, d⟩, ⟨[], 0, d⟩] by unfold cellsP; rw [if_neg (by rw [← hx]; exact h1), if_neg h2])
      rw [HP.out]
      have h2' : decide ((cols : Int) = 1) = false := by simp; omega
      have h2'' : ¬ (cols : Int) = 1 := by omega
      clear hwc h0 hx h2
      go_enter Tryd.func45, Tryd.ntmps45
      go_wp2_with (first
        | (refine (WD.out _).mono ?_; rintro e w1 ⟨rfl, b1⟩; have hc1 := HC.out w1 b1)
        | (refine (SH.out _).mono ?_; rintro e w2 ⟨rfl, b2⟩))
      go_ret
      exact ⟨_, rfl, Nat.le_trans b1.size b2.size, heap_alloc_new _ _, (b1.trans (b2.mono b1.size)).alloc (Nat.le_trans b1.size b2.size) _⟩
end Go.Proofs.YtfgjhfmgacopoaaDoor
