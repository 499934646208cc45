import Derived.Test.YtfgjhfmgacopoaaDoorLo4
namespace Go.Proofs.YtfgjhfmgacopoaaDoor
set_option linter.unusedVariables false
set_option linter.unusedSimpArgs false
open Go.RowKit Go.Shelf
/-! Chapter 18: a new row. -/
theorem info_rows : (Tryd.prog.info? 31).map (fun i => (i.zero, i.size, i.bytes)) = some (some (.slice none 0 0), 1, 24) := by kernel_rfl
theorem rd_blank (w : World) : Rd (w.alloc (.cells #[.string ⟨#[32]⟩, .int .i64 1, .bool false] 33)) (some ⟨w.heap.size, 0, none⟩) (flatC [blankC]) := fun k u hk => ⟨_, 0, rfl, by
  rw [Nat.zero_add, cell_of_row _ _ _ _ _ (0, 0) (heap_alloc_new _ _)]
  simpa [flatC, cellV, blankC] using hk⟩
theorem Row.ne_box {w : World} {D : Nat} {e : TypeId} {sz : Nat} {v : Value} {n : Nat} {xs : List Value} (h : Row w D e sz v n xs) {g : Nat} {cs : Array Value} {T : TypeId} {m : Nat × Nat} (hg : w.heap[g]? = some (.cells cs T m)) (hT : e ≠ T) : v.ownBlock ≠ some g := by
  intro e1
  rcases h.2 with ⟨rfl, _⟩ | ⟨g', off, cap, cur, rfl, hb, hg', _⟩
  · simp [Value.ownBlock] at e1
  · simp [Value.ownBlock] at e1
    subst e1; rw [hg] at hg'; cases hg'; exact hT rfl
theorem box_cells {w : World} {sb : Nat} {a b c : Value} {T : TypeId} (hb : w.heap[sb]? = some (.cells #[a, b, c] T (0, 0))) :
    w.cell? ⟨sb, 0, none⟩ = some a ∧ w.cell? ⟨sb, 1, none⟩ = some b ∧ w.cell? ⟨sb, 2, none⟩ = some c ∧
    w.frozen? ⟨sb, 0, none⟩ = false ∧ w.frozen? ⟨sb, 1, none⟩ = false ∧ w.frozen? ⟨sb, 2, none⟩ = false := by
  simp [World.cell?, World.frozen?, hb]
theorem row_fin {w w2 w3 : World} {B sb cols : Nat} {L : List RowT} {col : Nat} {v v3 : Value} {rs : List Nat} {R : Nat} {o : Obj} (h : Sht w B sb cols L col v rs) (hb2 : Below w.heap.size w w2) (hR : w.heap.size ≤ R)
    (hg2 : w2.heap[R]? = some (.cells (flatC (blanks cols)).toArray 33 (0, 0))) (hrow : Row w3 B 31 1 v3 (L.length + 1) (rs.map (rowV cols) ++ [rowV cols R])) (hg3 : (w2.alloc o).grownBy w3 v.ownBlock) :
    ∃ v' rs', Sht ((w3.setCell ⟨sb, 1, none⟩ v3).setCell ⟨sb, 2, none⟩ (.int .i64 0)) B sb cols (L ++ [blanks cols]) 0 v' rs' ∧ KpS B w ((w3.setCell ⟨sb, 1, none⟩ v3).setCell ⟨sb, 2, none⟩ (.int .i64 0)) ∧
      (∀ (k : Nat) (cs : Array Value) (m : Nat × Nat), w.heap[k]? = some (.cells cs 33 m) → ((w3.setCell ⟨sb, 1, none⟩ v3).setCell ⟨sb, 2, none⟩ (.int .i64 0)).heap[k]? = some (.cells cs 33 m)) := by
  have hlt := lt_of_heap h.box
  have hb3 : Below w.heap.size w (w2.alloc o) := hb2.alloc hb2.size o
  have hold : ∀ (k : Nat) (ob : Obj), w.heap[k]? = some ob → v.ownBlock ≠ some k → w3.heap[k]? = some ob := fun k ob hk hn =>
    (hg3.block k (Nat.lt_of_lt_of_le (lt_of_heap hk) hb3.size) (fun e => hn e.symm)).trans ((hb3.block k (lt_of_heap hk)).trans hk)
  have hx3 := hold sb _ h.box (h.out.ne_box h.box (by decide))
  have hx4 := heap_setCell_same _ sb 1 _ _ v3 hx3
  have hx5 := heap_setCell_same _ sb 2 _ _ (.int .i64 0) hx4
  have hne3 : v3.ownBlock ≠ some sb := hrow.ne_box hx3 (by decide)
  have hmv : ∀ k : Nat, k ≠ sb → ((w3.setCell ⟨sb, 1, none⟩ v3).setCell ⟨sb, 2, none⟩ (.int .i64 0)).heap[k]? = w3.heap[k]? := fun k hk => by
    rw [heap_setCell_other _ _ _ _ hk, heap_setCell_other _ _ _ _ hk]
  have hRs : R ≠ sb := by omega
  have hRn : v.ownBlock ≠ some R := fun e => by have := (h.out.lt R e).2; omega
  have hR3 : w3.heap[R]? = some (.cells (flatC (blanks cols)).toArray 33 (0, 0)) := by
    rw [hg3.block R (by have := lt_of_heap hg2; simp; omega) (fun e => hRn e.symm), Below.heap_alloc _ _ _ (lt_of_heap hg2)]; exact hg2
  have hrl : (rs.map (rowV cols) ++ [rowV cols R]) = (rs ++ [R]).map (rowV cols) := by simp
  have hBw : B ≤ w.heap.size := Nat.le_trans h.hB (Nat.le_of_lt hlt)
  refine ⟨v3, rs ++ [R], ⟨hx5, h.hB, ?_, by simp [h.rl], ?_, ?_⟩, ?_, ?_⟩
  · rw [List.length_append, ← hrl]
    exact hrow.at_ fun k hk => hmv k (fun e => hne3 (by rw [← e]; exact hk))
  · intro k r l e1 e2
    by_cases hk : k < rs.length
    · rw [List.getElem?_append_left hk] at e1
      rw [List.getElem?_append_left (by rw [← h.rl]; exact hk)] at e2
      obtain ⟨x, y, z⟩ := h.rows k r l e1 e2
      refine ⟨?_, y, z⟩
      rw [hmv r (fun e => by subst e; rw [h.box] at x; exact absurd (Obj.cells.inj (Option.some.inj x)).2.1 (by decide))]
      exact hold r _ x (h.out.ne_box x (by decide))
    · rw [List.getElem?_append_right (by omega)] at e1
      rw [List.getElem?_append_right (by rw [← h.rl]; omega)] at e2
      obtain ⟨k', hk'⟩ : ∃ k', k' = k - rs.length := ⟨_, rfl⟩
      rw [← hk'] at e1
      rw [← h.rl, ← hk'] at e2
      have h0 : k' = 0 := by
        have := (List.getElem?_eq_some_iff.1 e1).1
        simpa using this
      subst h0
      simp at e1 e2
      subst e1 e2
      exact ⟨by rw [hmv _ hRs]; exact hR3, by omega, blanks_len _⟩
  · rw [List.nodup_append]
    refine ⟨h.nd, by simp, fun a ha b hb => ?_⟩
    simp at hb
    subst hb
    obtain ⟨k, hk, e⟩ := List.getElem_of_mem ha
    have hkl : k < L.length := by rw [← h.rl]; exact hk
    have := (h.rows k a L[k] (by rw [List.getElem?_eq_getElem hk, e]) (List.getElem?_eq_getElem hkl)).1
    have := lt_of_heap this
    omega
  · have k1 : KpS B w (w2.alloc o) := .of_below hb3 hBw
    have k2 : KpS B w w3 := k1.grown (h.out.below hb3 (Nat.le_refl _)) (Nat.le_refl _) (Nat.le_trans hBw hb3.size) ns_rows hg3
    exact (k2.setCell hx3 ns_sheet h.hB _).setCell hx4 ns_sheet h.hB _
  · intro k cs m hk
    rw [hmv k (fun e => by subst e; rw [h.box] at hk; exact absurd (Obj.cells.inj (Option.some.inj hk)).2.1 (by decide))]
    exact hold k _ hk (h.out.ne_box hk (by decide))
set_option maxHeartbeats 4000000 in
set_option maxRecDepth 100000 in
theorem row_calls {w : World} {B sb cols : Nat} {L : List RowT} {col : Nat} {v : Value} {rs : List Nat} (h : Sht w B sb cols L col v rs) (h1 : 1 ≤ cols) (h2 : cols ≤ 120) (hL : L.length ≤ 100000) :
    Calls Tryd.prog 38 #[sptr sb] w fun e w' => e = .returned (.tuple #[]) ∧ ∃ v' rs', Sht w' B sb cols (L ++ [blanks cols]) 0 v' rs' ∧ KpS B w w' ∧ (∀ (k : Nat) (cs : Array Value) (m : Nat × Nat), w.heap[k]? = some (.cells cs 33 m) → w'.heap[k]? = some (.cells cs 33 m)) := by
  have HS := Lib.hid h
  obtain ⟨c0, c1, c2, f0, f1, f2⟩ := h.cells
  have hlt := lt_of_heap h.box
  have BL := Lib.hid (fun w => show Calls Tryd.prog 53 #[] w fun e w' => e = .returned (.agg #[.string ⟨#[32]⟩, .int .i64 1, .bool false]) ∧ Below w.heap.size w w' from Blank_calls w)
  have RP := Lib.hid (fun b W hb => Repeat_calls b cols 1 h1 (by omega) W hb)
  have HC := Lib.hid (fun (W : World) (hb : Below w.heap.size w W) => show W.cell? ⟨sb, 0, none⟩ = some (n64 cols) ∧ W.cell? ⟨sb, 1, none⟩ = some v from ⟨(hb.cell hlt).trans c0, (hb.cell hlt).trans c1⟩)
  obtain ⟨A, c, hv, _⟩ := h.out.rd
  have hbd : Below w.heap.size w w.drew := (Below.refl _ w).drew
  have hne : (Value.slice A L.length c).ownBlock ≠ some sb := (hv ▸ h.out).ne_box h.box (by decide)
  have hBs : B ≤ w.heap.size := Nat.le_trans h.hB (Nat.le_of_lt hlt)
  have e1 : (L.length + 1) * 24 ≤ 140737488355328 := by omega
  have e2 : L.length + 1 ≤ maxLen := by simp only [maxLen]; omega
  have e3 : ∀ R, ∀ u ∈ [rowV cols R], u.oneCell' = true := fun R u hu => by simp at hu; subst hu; rfl
  have hfo : Tryd.prog.follows Departure.mixedOrders = true := by kernel_rfl
  subst hv
  have HO := Lib.hid h.out
  have HX := Lib.hid h.box
  clear h f0 f1 f2 c2
  go_enter Tryd.func38, Tryd.ntmps38
  go_wp2_with fail
  obtain ⟨kd0, kd1⟩ := HC.out _ hbd
  go_region_law (first
    | (refine step_append_row _ (by rfl) _ _ _ (by rfl) B 31 1 24 _ Tryd.underlying26 info_rows rfl (by decide) (.slice A L.length c) _ (rs.map (rowV cols)) (by rfl) (HO.out.below (hb2.alloc hb2.size _) (Nat.le_refl _)) (some ⟨w2.heap.size, 0, none⟩) 1 1 [rowV cols R] (by rfl) rfl (Rd.new1 _ _ _) (e3 R) e1 e2 (Nat.le_trans hBs (hb2.alloc hb2.size _).size) ?_; intro A3 c3 w3 hrow3 hg3 hb3; have hx3 : w3.heap[sb]? = some (.cells #[n64 cols, .slice A L.length c, n64 col] 73 (0, 0)) := (hg3.block sb (Nat.lt_of_lt_of_le hlt (hb2.alloc hb2.size _).size) (fun e => hne e.symm)).trans (((hb2.alloc hb2.size _).block sb hlt).trans HX.out); obtain ⟨g0, g1, g2, f0, f1, f2⟩ := box_cells hx3)
    | (go_simp; first
      | (go_at_call 53; (with_reducible refine (BL.out w.drew).mono ?_); rintro e w1 ⟨rfl, b1⟩; have hb1 : Below w.heap.size w w1 := hbd.trans b1; obtain ⟨x0, x1⟩ := HC.out _ hb1; obtain ⟨y0, y1⟩ := HC.out _ (hb1.alloc hb1.size (.cells #[.string ⟨#[32]⟩, .int .i64 1, .bool false] 33)))
      | (go_at_call 52; (with_reducible refine (RP.out w1.heap.size _ (rd_blank w1)).mono ?_); rintro e w2 ⟨R, rfl, hR, hg2, b2⟩; have hb2 : Below w.heap.size w w2 := (hb1.alloc hb1.size _).trans (b2.mono (hb1.alloc hb1.size _).size); obtain ⟨z0, z1⟩ := HC.out _ hb2; obtain ⟨u0, u1⟩ := HC.out _ (hb2.alloc hb2.size (.cells #[rowV cols R] 31))); dsimp only))
  all_goals
    go_wp2
    go_end0
    exact ⟨rfl, row_fin HS.out hb2 (Nat.le_trans (hb1.alloc hb1.size _).size hR) hg2 hrow3 hg3⟩
end Go.Proofs.YtfgjhfmgacopoaaDoor
