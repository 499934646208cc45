import Derived.Test.YtfgjhfmgacopoaaDoorLo14
namespace Go.Proofs.YtfgjhfmgacopoaaDoor
set_option linter.unusedVariables false
set_option linter.unusedSimpArgs false
open Go.RowKit Go.Shelf
/-! Chapter 18: law18's Old. -/
theorem info_rrows : (Tryd.prog.info? 49).map (fun i => (i.zero, i.size, i.bytes)) = some (some (.slice none 0 0), 1, 24) := by kernel_rfl
theorem load_rframe {w : World} {b : Nat} {x y z : Value} (h : w.heap[b]? = some (.cells #[x, y, z] 46 (0, 0))) : (loadVar 46 ⟨b, 0, none⟩).run Tryd.prog w = .ok (.agg #[x, y, z]) w :=
  run_loadVar_row w b _ _ _ (0, 0) _ h Tryd.underlying46 rfl (by kernel_rfl)
def FrO (w : World) (b : Nat) (v : Value) (r c : Nat) : Prop := w.heap[b]? = some (.cells #[v, n64 r, n64 c] 46 (0, 0))
theorem FrO.cells {w : World} {b : Nat} {v : Value} {r c : Nat} (h : FrO w b v r c) : w.cell? ⟨b, 0, none⟩ = some v ∧ w.cell? ⟨b, 1, none⟩ = some (n64 r) ∧ w.cell? ⟨b, 2, none⟩ = some (n64 c) ∧ w.frozen? ⟨b, 0, none⟩ = false ∧ w.frozen? ⟨b, 1, none⟩ = false ∧ w.frozen? ⟨b, 2, none⟩ = false :=
  box_cells h
theorem FrO.set {w : World} {b : Nat} {v : Value} {r c : Nat} (h : FrO w b v r c) (u : Value) : FrO (w.setCell ⟨b, 0, none⟩ u) b u r c := heap_setCell_same _ b 0 _ _ u h
/-- Rows that were copied so far, in blocks of their own. -/
structure CpO (w : World) (B : Nat) (L : List RowT) (vals : List Value) : Prop where
  len : vals.length = L.length
  row : ∀ (k : Nat) (v : Value) (l : RowT), vals[k]? = some v → L[k]? = some l → Row w B 70 3 v l.length (flatC l)
  nd : ∀ (j k : Nat) (u v : Value) (b : Nat), vals[j]? = some u → vals[k]? = some v → u.ownBlock = some b → v.ownBlock = some b → j = k
theorem CpO.nil (w : World) (B : Nat) : CpO w B [] [] := ⟨rfl, fun k v l e _ => by simp at e, fun j k u v b e _ => by simp at e⟩
theorem CpO.keep {w w' : World} {B : Nat} {L : List RowT} {vals : List Value} (h : CpO w B L vals) (hk : ∀ (k : Nat) (cs : Array Value) (m : Nat × Nat), w.heap[k]? = some (.cells cs 70 m) → w'.heap[k]? = some (.cells cs 70 m)) : CpO w' B L vals :=
  ⟨h.len, fun k v l e f => by
    have hr := h.row k v l e f
    refine hr.at_ fun b hb => ?_
    rcases hr.2 with ⟨rfl, _⟩ | ⟨g, o, cp, cur, rfl, _, hg, _⟩
    · simp [Value.ownBlock] at hb
    · simp [Value.ownBlock] at hb
      subst hb; rw [hg]; exact hk _ _ _ hg, h.nd⟩
theorem CpO.snoc {w : World} {B : Nat} {L : List RowT} {vals : List Value} (h : CpO w B L vals) {l : RowT} {v : Value} (hr : Row w B 70 3 v l.length (flatC l)) (hn : ∀ (u : Value) (b : Nat), u ∈ vals → u.ownBlock = some b → v.ownBlock ≠ some b) : CpO w B (L ++ [l]) (vals ++ [v]) := by
  refine ⟨by simp [h.len], fun k u m e f => ?_, fun j k u x b e f a c => ?_⟩
  · by_cases hk : k < vals.length
    · rw [List.getElem?_append_left hk] at e
      rw [List.getElem?_append_left (by rw [← h.len]; exact hk)] at f
      exact h.row k u m e f
    · rw [List.getElem?_append_right (by omega)] at e
      rw [List.getElem?_append_right (by rw [← h.len]; omega)] at f
      have h0 : k - vals.length = 0 := by have := (List.getElem?_eq_some_iff.1 e).1; simpa using this
      rw [h0] at e
      rw [← h.len, h0] at f
      simp at e f
      subst e f
      exact hr
  · by_cases hj : j < vals.length <;> by_cases hk : k < vals.length
    · rw [List.getElem?_append_left hj] at e
      rw [List.getElem?_append_left hk] at f
      exact h.nd j k u x b e f a c
    · rw [List.getElem?_append_left hj] at e
      rw [List.getElem?_append_right (by omega)] at f
      have h0 : k - vals.length = 0 := by have := (List.getElem?_eq_some_iff.1 f).1; simpa using this
      rw [h0] at f
      simp at f
      subst f
      exact absurd c (hn u b (List.mem_of_getElem? e) a)
    · rw [List.getElem?_append_left hk] at f
      rw [List.getElem?_append_right (by omega)] at e
      have h0 : j - vals.length = 0 := by have := (List.getElem?_eq_some_iff.1 e).1; simpa using this
      rw [h0] at e
      simp at e
      subst e
      exact absurd a (hn x b (List.mem_of_getElem? f) c)
    · have h0 : j - vals.length = 0 := by
        rw [List.getElem?_append_right (by omega)] at e
        have := (List.getElem?_eq_some_iff.1 e).1; simpa using this
      have h1 : k - vals.length = 0 := by
        rw [List.getElem?_append_right (by omega)] at f
        have := (List.getElem?_eq_some_iff.1 f).1; simpa using this
      omega
set_option maxHeartbeats 4000000 in
set_option maxRecDepth 100000 in
theorem Old18_calls (w : World) (f : FrameT) (v : Value) (vs : List Value) (hl : FrG w 0 f.rows v vs) (h1 : f.rows.length ≤ 100000) (k1 : ∀ l ∈ f.rows, l.length ≤ 100000) :
    Calls Tryd.prog 21 #[frV v f] w fun e w' => ∃ v' vs', e = .returned (frV v' f) ∧ Row w' w.heap.size 49 1 v' f.rows.length vs' ∧ CpO w' w.heap.size f.rows vs' ∧ Below w.heap.size w w' := by
  obtain ⟨A, cp, hv, _, _, hr, _⟩ := hl.out.rd
  obtain ⟨L, r, c⟩ := f
  unfold frV
  dsimp only at hl h1 k1 hr hv ⊢
  subst hv
  have HF := Lib.hid hl
  have HR := Lib.hid hr
  clear hl hr
  go_enter Tryd.func21, Tryd.ntmps21
  go_wp2_with fail
  obtain ⟨W0, hW0⟩ : ∃ W0, W0 = ((w.alloc (.cells #[.slice A L.length cp, n64 r, n64 c] 28)).alloc (.cells #[.slice none 0 0, .int .i64 0, .int .i64 0] 46)).alloc (.cells #[.slice none 0 0, .int .i64 r, .int .i64 c] 46) := ⟨_, rfl⟩
  obtain ⟨b2, hb2⟩ : ∃ b, b = w.heap.size + 1 := ⟨_, rfl⟩
  obtain ⟨b3, hb3⟩ : ∃ b, b = w.heap.size + 1 + 1 := ⟨_, rfl⟩
  have Z2 : FrO W0 b2 (.slice none 0 0) 0 0 := by
    rw [hW0, hb2]
    have := heap_alloc_new (w.alloc (.cells #[.slice A L.length cp, n64 r, n64 c] 28)) (.cells #[.slice none 0 0, .int .i64 0, .int .i64 0] 46)
    rw [World.size_alloc] at this
    exact (Below.heap_alloc _ _ _ (by simp)).trans this
  have Z3 : FrO W0 b3 (.slice none 0 0) r c := by
    rw [hW0, hb3]
    have := heap_alloc_new ((w.alloc (.cells #[.slice A L.length cp, n64 r, n64 c] 28)).alloc (.cells #[.slice none 0 0, .int .i64 0, .int .i64 0] 46)) (.cells #[.slice none 0 0, .int .i64 r, .int .i64 c] 46)
    rw [World.size_alloc, World.size_alloc] at this
    exact this
  have B0 : Below w.heap.size w W0 := by rw [hW0]; exact (((Below.refl _ w).alloc (Nat.le_refl _) _).alloc (by simp) _).alloc (by simp; omega) _
  rw [← hW0, ← hb3, ← hb2]
  have h23 : b2 ≠ b3 := by omega
  have hB3 : w.heap.size ≤ b3 := by omega
  have hB2 : w.heap.size ≤ b2 := by omega
  have hfo : Tryd.prog.follows Departure.mixedOrders = true := by kernel_rfl
  clear hW0 hb2 hb3
  go_loopw [14] (fun u14 wr => ∃ (k : Nat) (vo : Value) (vals : List Value), u14 = n64 k ∧ k ≤ L.length ∧ FrO wr b3 vo r c ∧ FrO wr b2 (.slice none 0 0) 0 0 ∧ Row wr w.heap.size 49 1 vo k vals ∧ CpO wr w.heap.size (L.take k) vals ∧ Below w.heap.size w wr) (fun u14 _ => (L.length - intOf u14).toNat)
  case atStart => exact ⟨0, _, [], rfl, Nat.zero_le _, Z3, Z2, Row.nil _ _ _ _, CpO.nil _ _, B0⟩
  case round =>
    obtain ⟨k, vo, vals, rfl, hk, y3, y2, hrow, hcp, hb⟩ := hrel
    clear Z2 Z3 B0
    by_cases hlt : k < L.length
    · obtain ⟨x, hx⟩ : ∃ x, L[k]? = some x := ⟨_, List.getElem?_eq_getElem hlt⟩
      obtain ⟨vx, hvx⟩ : ∃ x, vs[k]? = some x := ⟨_, List.getElem?_eq_getElem (by rw [HF.out.len]; exact hlt)⟩
      obtain ⟨g1, og, rfl, a1⟩ := HR.out.later hb k vx hvx
      obtain ⟨Ao, co, hvo, _⟩ := hrow.rd
      subst hvo
      have hb3l := lt_of_heap (show wr.heap[b3]? = _ from y3)
      have hBr : w.heap.size ≤ wr.heap.size := hb.size
      have CL := Lib.hid (fun W (hW : Below wr.heap.size wr W) => Old17_calls W x vx ((HF.out.later (hb.trans (hW.mono hBr))).row k vx x hvx hx) (by have := k1 x (List.mem_of_getElem? hx); omega))
      have CB := Lib.hid (fun W (hW : Below wr.heap.size wr W) => show FrO W b3 _ r c from (hW.block _ hb3l).trans y3)
      have r0 : (k : Int) < (L.length : Int) := by omega
      have HX := Lib.hid hx
      have HB := Lib.hid hb
      have HW := Lib.hid hrow
      have HC := Lib.hid hcp
      have Y2 := Lib.hid y2
      have Y3 := Lib.hid y3
      have c0 := y3.cells.1
      have e1 : (k + 1) * 24 ≤ 140737488355328 := by omega
      have e2 : k + 1 ≤ maxLen := by simp only [maxLen]; omega
      have hne : (Value.slice Ao k co).ownBlock ≠ some b3 := hrow.ne_box (show wr.heap[b3]? = _ from y3) (by decide)
      have hbd : Below wr.heap.size wr wr.drew := (Below.refl _ wr).drew
      have kd : wr.drew.cell? ⟨b3, 0, none⟩ = some (.slice Ao k co) := c0
      clear hx hvx hb hrow hcp y2 y3 k1 HR
      go_wp2_with fail
      go_region_law (first
        | (refine step_append_row _ (by rfl) _ _ _ (by rfl) w.heap.size 49 1 24 _ Tryd.underlying44 info_rrows rfl (by decide) (.slice Ao k co) _ vals (by rfl) (HW.out.below (hb2.alloc hb2.size _) (Nat.le_refl _)) (some ⟨w2.heap.size, 0, none⟩) 1 1 [.slice A1 x.length c1] (by rfl) rfl (Rd.new1 _ _ _) (by intro u hu; simp at hu; subst hu; rfl) e1 e2 (Nat.le_trans hBr (hb2.alloc hb2.size _).size) ?_; intro A3 c3 w3 hrow3 hg3 hb3'; have hx3 : FrO w3 b3 (.slice Ao k co) r c := (hg3.block b3 (Nat.lt_of_lt_of_le hb3l (hb2.alloc hb2.size _).size) (fun e => hne e.symm)).trans (CB.out _ (hb2.alloc hb2.size _)); obtain ⟨t0, t1, t2, u0, u1, u2⟩ := hx3.cells)
        | (go_simp; first
          | (go_at_call 23; (with_reducible refine (CL.out wr.drew hbd).mono ?_); rintro e w2 ⟨A1, c1, rfl, hrow2, b2'⟩; have hb2 : Below wr.heap.size wr w2 := hbd.trans b2'; have k0 := (CB.out _ hb2).cells.1; have k2 := (CB.out _ (hb2.alloc hb2.size (.cells #[.slice A1 x.length c1] 49))).cells.1); dsimp only))
      all_goals
        have hba := hb2.alloc hb2.size (.cells #[.slice A1 x.length c1] 49)
        have n3 : ∀ j, j ≠ b3 → (w3.setCell ⟨b3, 0, none⟩ (.slice A3 (k + 1) c3)).heap[j]? = w3.heap[j]? := fun j hj => heap_setCell_other _ _ _ _ hj
        have m3 : ∀ (j : Nat) (cs : Array Value) (T : TypeId) (m : Nat × Nat), w2.heap[j]? = some (.cells cs T m) → (Value.slice Ao k co).ownBlock ≠ some j → j ≠ b3 → (w3.setCell ⟨b3, 0, none⟩ (.slice A3 (k + 1) c3)).heap[j]? = some (.cells cs T m) := fun j cs T m e n1 n2 => by
          rw [n3 j n2, hg3.block j (by have := lt_of_heap e; simp; omega) (fun e => n1 e.symm), Below.heap_alloc _ _ _ (lt_of_heap e)]
          exact e
        have m4 : ∀ (j : Nat) (cs : Array Value) (m : Nat × Nat), w2.heap[j]? = some (.cells cs 70 m) → (w3.setCell ⟨b3, 0, none⟩ (.slice A3 (k + 1) c3)).heap[j]? = some (.cells cs 70 m) := fun j cs m e =>
          m3 j cs _ m e ((HW.out.below hb2 (Nat.le_refl _)).ne_box e (by decide)) (ne_of_types e (show w2.heap[b3]? = _ from CB.out _ hb2) (by decide))
        have z2 : FrO (w3.setCell ⟨b3, 0, none⟩ (.slice A3 (k + 1) c3)) b2 (.slice none 0 0) 0 0 := m3 b2 _ _ _ ((hb2.block _ (lt_of_heap Y2.out)).trans Y2.out) (HW.out.ne_box (show wr.heap[b2]? = _ from Y2.out) (by decide)) h23
        have z3 := hx3.set (.slice A3 (k + 1) c3)
        have zr := hrow3.at_ (w' := w3.setCell ⟨b3, 0, none⟩ (.slice A3 (k + 1) c3)) fun j hj => n3 j (fun e => hrow3.ne_box (show w3.heap[b3]? = _ from hx3) (by decide) (by rw [← e]; exact hj))
        have q2 : Row w2 w.heap.size 70 3 (.slice A1 x.length c1) x.length (flatC x) := hrow2.mono hBr
        have q3 : Row (w3.setCell ⟨b3, 0, none⟩ (.slice A3 (k + 1) c3)) w.heap.size 70 3 (.slice A1 x.length c1) x.length (flatC x) := q2.at_ fun j hj => by
          rcases q2.2 with ⟨e, _⟩ | ⟨g, o, cq, cur, e, _, hg, _⟩
          · rw [e] at hj; simp [Value.ownBlock] at hj
          · rw [e] at hj; simp [Value.ownBlock] at hj
            subst hj; rw [hg]; exact m4 _ _ _ hg
        have zc : CpO (w3.setCell ⟨b3, 0, none⟩ (.slice A3 (k + 1) c3)) w.heap.size (L.take (k + 1)) (vals ++ [.slice A1 x.length c1]) := by
          rw [List.take_add_one, HX.out]
          refine (HC.out.keep fun j cs m e => m4 j cs m ((hb2.block _ (lt_of_heap e)).trans e)).snoc q3 (fun u b hu hub hv => ?_)
          obtain ⟨j, hj⟩ := List.getElem?_of_mem hu
          have hjl : j < (L.take k).length := by rw [← HC.out.len]; exact (List.getElem?_eq_some_iff.1 hj).1
          have a := ((HC.out.row j u _ hj (List.getElem?_eq_getElem hjl)).lt b hub).2
          have b' := (hrow2.lt b hv).1
          have : wr.drew.heap.size = wr.heap.size := rfl
          omega
        have zb : Below w.heap.size w (w3.setCell ⟨b3, 0, none⟩ (.slice A3 (k + 1) c3)) := ((HB.out.trans (hba.mono hBr)).grown hg3 (Nat.le_trans hBr hba.size) (fun j ej => (HW.out.lt j ej).1)).setCell (p := ⟨b3, 0, none⟩) hB3 _
        have I1 := Lib.hid z2
        have I2 := Lib.hid z3
        have I3 := Lib.hid zr
        have I4 := Lib.hid zc
        have I5 := Lib.hid zb
        clear z2 z3 zr zc zb n3 m3 m4 q2 q3 hx3 hrow3 hg3 hb3' t0 t1 t2 u0 u1 u2 hrow2 k0 k2
        go_wp2_with fail
        go_roundw
        case rel => exact ⟨k + 1, _, _, by go_num, by omega, I2.out, I1.out, I3.out, I4.out, I5.out⟩
        case measure => simp [intOf]; omega
    · obtain rfl : k = L.length := by omega
      obtain ⟨A', c', hvo, _⟩ := hrow.rd
      subst hvo
      obtain ⟨o0, o1, o2, -, -, -⟩ := y3.cells
      obtain ⟨p0, p1, p2, q0, q1, q2⟩ := y2.cells
      have Y2 := Lib.hid y2
      rw [List.take_length] at hcp
      have HC := Lib.hid hcp
      have HW := Lib.hid hrow
      have HB := Lib.hid hb
      clear y3 y2 hcp hrow hb
      go_wp2_with fail
      have g0 := heap_setCell_same _ b2 0 _ _ (.slice A' L.length c') Y2.out
      have g1 := heap_setCell_same _ b2 1 _ _ (.int .i64 (r : Int)) g0
      have g2 := heap_setCell_same _ b2 2 _ _ (.int .i64 (c : Int)) g1
      refine bodyPost_ret (results_cell1 rfl rfl (load_rframe g2)) rfl ⟨.slice A' L.length c', vals, rfl, ?_, ?_, ((HB.out.setCell (p := ⟨b2, 0, none⟩) hB2 _).setCell (p := ⟨b2, 1, none⟩) hB2 _).setCell (p := ⟨b2, 2, none⟩) hB2 _⟩
      · refine HW.out.at_ fun j hj => ?_
        have hne : j ≠ b2 := fun e => HW.out.ne_box (show wr.heap[b2]? = _ from Y2.out) (by decide) (by rw [← e]; exact hj)
        rw [heap_setCell_other _ _ _ _ hne, heap_setCell_other _ _ _ _ hne, heap_setCell_other _ _ _ _ hne]
      · refine HC.out.keep fun j cs m e => ?_
        have hne : j ≠ b2 := ne_of_types e (show wr.heap[b2]? = _ from Y2.out) (by decide)
        rw [heap_setCell_other _ _ _ _ hne, heap_setCell_other _ _ _ _ hne, heap_setCell_other _ _ _ _ hne]
        exact e
end Go.Proofs.YtfgjhfmgacopoaaDoor
