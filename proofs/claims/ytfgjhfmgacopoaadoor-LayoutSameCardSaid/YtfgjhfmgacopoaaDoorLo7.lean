import Derived.Test.YtfgjhfmgacopoaaDoorLo6
namespace Go.Proofs.YtfgjhfmgacopoaaDoor
set_option linter.unusedVariables false
set_option linter.unusedSimpArgs false
open Go.RowKit Go.Shelf
/-! Chapter 18: a row written over, alone; the closure that puts a ghost's cluster. -/
theorem Sht.over {W Y : World} {B sb cols : Nat} {D : List RowT} {A cs : RowT} {col : Nat} {v : Value} {rs : List Nat} {r : Nat} (h : Sht W B sb cols (D ++ [padP cols A]) col v rs) (hr : rs[D.length]? = some r) (hfit : A.length + cs.length ≤ cols)
    (hY : Y.heap = W.heap) (hb : Below B W Y) :
    Sht (Y.setRow r (flatC (splice (padP cols A) A.length cs)).toArray) B sb cols (D ++ [padP cols (A ++ cs)]) col v rs ∧ KpS B W (Y.setRow r (flatC (splice (padP cols A) A.length cs)).toArray) := by
  have hl : (D ++ [padP cols A])[D.length]? = some (padP cols A) := by simp
  obtain ⟨p, q, z⟩ := h.rows _ r _ hr hl
  have pY : Y.heap[r]? = _ := (by rw [hY] : Y.heap[r]? = W.heap[r]?).trans p
  have bY : Y.heap[sb]? = _ := (by rw [hY] : Y.heap[sb]? = W.heap[sb]?).trans h.box
  have hne : r ≠ sb := ne_of_types p h.box (by decide)
  have g1 := setRow_heap Y r _ (flatC (splice (padP cols A) A.length cs)).toArray _ _ pY
  have b1 : (Y.setRow r (flatC (splice (padP cols A) A.length cs)).toArray).heap[sb]? = _ := (setRow_other _ _ _ _ (fun e => hne e.symm)).trans bY
  have hmv : ∀ k : Nat, k ≠ r → (Y.setRow r (flatC (splice (padP cols A) A.length cs)).toArray).heap[k]? = W.heap[k]? := fun k h2 => by
    rw [setRow_other _ _ _ _ h2, hY]
  have hpo := pad_over hfit
  refine ⟨⟨b1, h.hB, ?_, by simpa using h.rl, ?_, h.nd⟩, ?_⟩
  · rw [List.length_append]
    have := h.out
    rw [List.length_append] at this
    exact this.at_ fun k hk => hmv k (fun e => h.out.ne_box p (by decide) (by rw [← e]; exact hk))
  · intro k r' l e1 e2
    by_cases hk : k < D.length
    · rw [List.getElem?_append_left hk] at e2
      have e3 : (D ++ [padP cols A])[k]? = some l := by rw [List.getElem?_append_left hk]; exact e2
      obtain ⟨x, y, t⟩ := h.rows k r' l e1 e3
      have hrr : r' ≠ r := fun e => by
        subst e
        have i1 := List.getElem?_eq_some_iff.1 e1
        have i2 := List.getElem?_eq_some_iff.1 hr
        exact List.pairwise_iff_getElem.1 h.nd k D.length i1.1 i2.1 hk (i1.2.trans i2.2.symm)
      exact ⟨by rw [hmv r' hrr]; exact x, y, t⟩
    · have hkl : k = D.length := by
        have := (List.getElem?_eq_some_iff.1 e2).1
        simp at this; omega
      subst hkl
      rw [hr] at e1
      cases e1
      simp at e2
      subst e2
      refine ⟨?_, q, pad_len (by rw [List.length_append]; exact hfit)⟩
      rw [g1, hpo]
  · have k0 : KpS B W Y := ⟨hb, fun k o e _ => by rw [hY]; exact e⟩
    exact k0.setRow pY ns_cell q _
/-- The sheet does not mind a store into a box of another type. -/
theorem Sht.setCell {w : World} {B sb cols : Nat} {L : List RowT} {col : Nat} {v : Value} {rs : List Nat} (h : Sht w B sb cols L col v rs) {g i : Nat} {cs : Array Value} {T : TypeId} {m : Nat × Nat} (hg : w.heap[g]? = some (.cells cs T m)) (hT : NotS T) (u : Value) :
    Sht (w.setCell ⟨g, i, none⟩ u) B sb cols L col v rs := by
  have hmv : ∀ k : Nat, k ≠ g → (w.setCell ⟨g, i, none⟩ u).heap[k]? = w.heap[k]? := fun k h2 => heap_setCell_other _ _ _ _ h2
  refine ⟨(hmv _ (ne_of_types h.box hg (fun e => hT.2.2 e.symm))).trans h.box, h.hB, ?_, h.rl, ?_, h.nd⟩
  · exact h.out.at_ fun k hk => hmv k (fun e => h.out.ne_box hg (fun e => hT.2.1 e.symm) (by rw [← e]; exact hk))
  · intro k r l e1 e2
    obtain ⟨x, y, t⟩ := h.rows k r l e1 e2
    exact ⟨(hmv _ (ne_of_types x hg (fun e => hT.1 e.symm))).trans x, y, t⟩
structure KpB (B b : Nat) (w w' : World) : Prop where
  bel : Below B w w'
  off : ∀ (k : Nat) (o : Obj), w.heap[k]? = some o → OffS o → k ≠ b → w'.heap[k]? = some o
theorem KpB.of {B b : Nat} {w w' : World} (h : KpS B w w') : KpB B b w w' := ⟨h.bel, fun k o e f _ => h.off k o e f⟩
theorem KpB.trans {B b : Nat} {u v w : World} (h : KpB B b u v) (k : KpB B b v w) : KpB B b u w := ⟨h.bel.trans k.bel, fun j o e f g => k.off j o (h.off j o e f g) f g⟩
theorem KpB.setCell {B b : Nat} {u v : World} (h : KpB B b u v) (hB : B ≤ b) (x : Value) : KpB B b u (v.setCell ⟨b, 0, none⟩ x) :=
  ⟨h.bel.setCell hB x, fun j o e f g => (heap_setCell_other _ _ _ _ g).trans (h.off j o e f g)⟩
theorem ns_int : NotS 3 := ⟨by decide, by decide, by decide⟩
abbrev bptr (b : Nat) : Value := .pointer (some ⟨b, 0, none⟩)
/-- The boxes that the closure holds: the sheet's pointer, the place, the column, the room, the row. -/
structure GhB (w : World) (sb b4 b11 b7 b9 b6 : Nat) (at_ col room row : Nat) : Prop where
  s : Boxed w b4 71 (sptr sb)
  a : Boxed w b11 3 (n64 at_)
  c : Boxed w b7 3 (n64 col)
  r : Boxed w b9 3 (n64 room)
  k : Boxed w b6 3 (n64 row)
  n7 : b7 ≠ b11
  n9 : b9 ≠ b11
  n6 : b6 ≠ b11
theorem GhB.move {w w' : World} {sb b4 b11 b7 b9 b6 a c r k : Nat} (h : GhB w sb b4 b11 b7 b9 b6 a c r k) (hm : ∀ (j : Nat) (o : Obj), w.heap[j]? = some o → OffS o → w'.heap[j]? = some o) : GhB w' sb b4 b11 b7 b9 b6 a c r k :=
  ⟨hm _ _ h.s ⟨by decide, by decide, by decide⟩, hm _ _ h.a ns_int, hm _ _ h.c ns_int, hm _ _ h.r ns_int, hm _ _ h.k ns_int, h.n7, h.n9, h.n6⟩
theorem GhB.set {w : World} {sb b4 b11 b7 b9 b6 a c r k : Nat} (h : GhB w sb b4 b11 b7 b9 b6 a c r k) (x : Nat) : GhB (w.setCell ⟨b11, 0, none⟩ (n64 x)) sb b4 b11 b7 b9 b6 x c r k :=
  ⟨h.s.other (ne_of_types h.s h.a (by decide)) _, h.a.set _, h.c.other h.n7 _, h.r.other h.n9 _, h.k.other h.n6 _, h.n7, h.n9, h.n6⟩
set_option maxHeartbeats 4000000 in
set_option maxRecDepth 100000 in
theorem ghost1_calls {w : World} {B sb cols : Nat} {D : List RowT} {A G : RowT} {col : Nat} {v : Value} {rs : List Nat} (h : Sht w B sb cols (D ++ [padP cols (A ++ G)]) col v rs) (h1 : 1 ≤ cols) (h2 : cols ≤ 120) (hL : D.length ≤ 100000)
    {b4 b11 b7 b9 b6 room : Nat} (hg : GhB w sb b4 b11 b7 b9 b6 (A ++ G).length A.length room D.length) (hr : A.length + room ≤ cols) (hGr : G.length ≤ room) (hB : B ≤ b11) (x : Bs) (hx : x.length ≤ 100000) :
    Calls Tryd.prog 58 #[str x, bptr b4, bptr b11, bptr b7, bptr b9, bptr b6] w fun e w' =>
      (room < G.length + (cellsP cols x true).length ∧ e = .returned (.bool false) ∧ Below w.heap.size w w') ∨
      (¬ room < G.length + (cellsP cols x true).length ∧ e = .returned (.bool true) ∧ Sht w' B sb cols (D ++ [padP cols (A ++ (G ++ cellsP cols x true))]) col v rs ∧
        GhB w' sb b4 b11 b7 b9 b6 (A ++ (G ++ cellsP cols x true)).length A.length room D.length ∧ KpB B b11 w w') := by
  have hBw : B ≤ w.heap.size := Nat.le_trans h.hB (Nat.le_of_lt (lt_of_heap h.box))
  obtain ⟨cs, hcs⟩ : ∃ cs, cs = cellsP cols x true := ⟨_, rfl⟩
  have hcn := cells_len cols x true h1
  have CL := Lib.hid (cells_calls x hx true sb cols w h.cells.1 (lt_of_heap h.box))
  rw [← hcs] at CL hcn ⊢
  obtain ⟨m, hm⟩ : ∃ m, m = cs.length := ⟨_, rfl⟩
  have HM := Lib.hid hm
  rw [← hm] at CL hcn ⊢
  obtain ⟨y, hy⟩ : ∃ y, y = (A ++ G).length := ⟨_, rfl⟩
  obtain ⟨z, hz⟩ : ∃ z, z = A.length := ⟨_, rfl⟩
  obtain ⟨N, hN⟩ : ∃ N, N = D.length := ⟨_, rfl⟩
  have hyz : y = z + G.length := by rw [hy, hz, List.length_append]
  have hfo : Tryd.prog.follows Departure.mixedOrders = true := by kernel_rfl
  have HG0 := Lib.hid hg
  have HH0 := Lib.hid h
  have g0 := hg
  rw [← hy, ← hz, ← hN] at g0
  have HB := Lib.hid (fun (W : World) (hb : Below w.heap.size w W) => g0.move fun j o e _ => (hb.block j (lt_of_heap e)).trans e)
  have t0 : IntKind.i64.wrap ((y : Int) - (z : Int)) = (y : Int) - (z : Int) := IntWalk.i64_in _ (by omega)
  have t3 : IntKind.i64.wrap ((y : Int) - (z : Int) + (m : Int)) = (y : Int) - (z : Int) + (m : Int) := IntWalk.i64_in _ (by omega)
  by_cases hf : room < G.length + m
  · have t1 : decide ((room : Int) < (y : Int) - (z : Int) + (m : Int)) = true := by simp only [decide_eq_true_eq]; omega
    have t2 : (room : Int) < (y : Int) - (z : Int) + (m : Int) := by omega
    clear hcs hm hg g0 h hy hz hN hyz hBw
    go_enter Tryd.func58, Tryd.ntmps58
    have g1 := HB.out w (Below.refl _ _)
    have k1 := g1.s.cell
    go_wp2_with (refine CL.out.mono ?_; rintro e w1 ⟨b, rfl, hbl, hcb, b1⟩; have g2 := HB.out w1 b1; have l2 := g2.a.cell; have l3 := g2.c.cell; have l4 := g2.r.cell)
    go_ret
    exact .inl ⟨hf, rfl, b1⟩
  · have t1 : decide ((room : Int) < (y : Int) - (z : Int) + (m : Int)) = false := by simp only [decide_eq_false_iff_not]; omega
    have t2 : ¬ (room : Int) < (y : Int) - (z : Int) + (m : Int) := by omega
    have t4 : IntKind.i64.wrap ((y : Int) + (m : Int)) = (y : Int) + (m : Int) := IntWalk.i64_in _ (by omega)
    have hfit : (A ++ G).length + cs.length ≤ cols := by rw [← HM.out, ← hy]; omega
    have HBw := Lib.hid hBw
    have hassoc : A ++ (G ++ cs) = (A ++ G) ++ cs := (List.append_assoc ..).symm
    rw [hassoc]
    obtain ⟨A2, hA2⟩ : ∃ A2, A2 = A ++ G := ⟨_, rfl⟩
    rw [← hA2] at h hy hfit HG0 ⊢
    have HS := Lib.hid (fun (W : World) (hb : Below w.heap.size w W) => h.later hb)
    have HG1 := Lib.hid (fun (W : World) (hb : Below w.heap.size w W) => HG0.out.move fun j o e _ => (hb.block j (lt_of_heap e)).trans e)
    have z1 : ¬ cols = y := by rw [← hy, ← HM.out] at hfit; omega
    have z4 : (y : Int) ≤ (cols : Int) := by omega
    have z5 : (N : Int) < (N : Int) + 1 := by omega
    have z6 : y + m ≤ cols := by rw [← hy, ← HM.out] at hfit; omega
    clear hcs hm hg g0 h hyz hBw hA2 hassoc
    go_enter Tryd.func58, Tryd.ntmps58
    have g1 := HB.out w (Below.refl _ _)
    have k1 := g1.s.cell
    go_wp2_with (refine CL.out.mono ?_; rintro e w1 ⟨b, rfl, hbl, hcb, b1⟩; have g2 := HB.out w1 b1; have l1 := g2.s.cell; have l2 := g2.a.cell; have l3 := g2.c.cell; have l4 := g2.r.cell; have l5 := g2.k.cell; have l6 := g2.a.frozen)
    have S1 := HS.out w1 b1
    have hrd := rd_cells hcb
    have hlast : (D ++ [padP cols A2])[D.length]? = some (padP cols A2) := by simp
    obtain ⟨g, o, c', r, hv, er, hc⟩ := S1.last
    subst hv
    have CP := copy_at S1 er hlast hrd (x := A2.length) hfit w1.drew rfl
    have FIN := Lib.hid (S1.over (cs := cs) er hfit (Y := w1.drew) rfl ⟨rfl, rfl, rfl, Nat.le_refl _, fun _ _ => rfl⟩)
    have FG := Lib.hid ((HG1.out w1 b1).move FIN.out.2.off)
    rw [← HM.out] at CP
    obtain ⟨X, hX⟩ : ∃ X, X = (flatC (splice (padP cols A2) A2.length cs)).toArray := ⟨_, rfl⟩
    rw [← hX] at CP FIN FG
    obtain ⟨c0, c1, c2, f0, f1, f2⟩ := S1.cells
    have a1 := FG.out.a.cell
    have a2 := FG.out.a.frozen
    rw [← hy] at CP a1
    rw [← hN] at hc c1
    have HY := Lib.hid hy
    have B1 := Lib.hid b1
    clear S1 hlast hX hrd hcb hbl hN hy b1 hcn f0 f1 f2 er g1 g2 hfit c0 c2 HB k1 z6
    go_region
    all_goals
      go_wp2
      rw [show Value.int .i64 ((y : Int) + (m : Int)) = n64 (A2 ++ cs).length from by rw [List.length_append, ← HY.out, ← HM.out]; simp]
      go_ret
      exact .inr ⟨hf, rfl, FIN.out.1.setCell FG.out.a ns_int _, FG.out.set _, ((KpB.of (KpS.of_below B1.out HBw.out)).trans (KpB.of FIN.out.2)).setCell hB _⟩
end Go.Proofs.YtfgjhfmgacopoaaDoor
