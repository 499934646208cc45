import Derived.Test.YtfgjhfmgacopoaaDoorLo5
namespace Go.Proofs.YtfgjhfmgacopoaaDoor
set_option linter.unusedVariables false
set_option linter.unusedSimpArgs false
open Go.RowKit Go.Shelf
/-! Chapter 18: a cluster is put. -/
/-- A row's cells are written over, at a place where they fit. -/
theorem copy_at {W : World} {B sb cols : Nat} {L : List RowT} {col : Nat} {v : Value} {rs : List Nat} (h : Sht W B sb cols L col v rs) {k r : Nat} {l : RowT} (hr : rs[k]? = some r) (hl : L[k]? = some l)
    {b x : Nat} {cs : RowT} (hb : Rd W (some ⟨b, 0, none⟩) (flatC cs)) (hx : x + cs.length ≤ cols) (Y : World) (hY : Y.heap = W.heap) (ty dc sc : Nat) :
    (Builtin.copy_ #[31, 31] ty #[.slice (some ⟨r, x * 3, none⟩) (cols - x) dc, .slice (some ⟨b, 0, none⟩) cs.length sc]).run Tryd.prog Y =
      .ok (goInt cs.length) (Y.setRow r (flatC (splice l x cs)).toArray) := by
  obtain ⟨p, q, z⟩ := h.rows k r l hr hl
  rw [← flatC_splice]
  exact run_copy_sz (P := Tryd.prog) Y 31 31 ty 33 3 r (x * 3) (cols - x) dc ⟨b, 0, none⟩ cs.length sc (flatC l) 33 (flatC cs) Tryd.underlying31 size_cell
    (by rw [hY]; exact p) cs.length (Nat.min_eq_left (by omega)) (flatC_len _) (fun j u hj => by
      obtain ⟨g, o, e, hc⟩ := hb j u hj
      exact ⟨g, o, e, (World.cell?_of_block (by rw [hY])).trans hc⟩) (by rw [flatC_len, flatC_len, z]; omega) (flatC_one _)
theorem ne_of_types {w : World} {g h : Nat} {cs cs' : Array Value} {T T' : TypeId} {m m' : Nat × Nat} (a : w.heap[g]? = some (.cells cs T m)) (b : w.heap[h]? = some (.cells cs' T' m')) (hT : T ≠ T') : g ≠ h := fun e => by
  subst e; rw [a] at b; exact hT (Obj.cells.inj (Option.some.inj b)).2.1
/-- The sheet behind the copy and the store. -/
theorem put_fin {W Y : World} {B sb cols : Nat} {D : List RowT} {A cs : RowT} {v : Value} {rs : List Nat} {r : Nat} (h : Sht W B sb cols (D ++ [padP cols A]) A.length v rs) (hr : rs[D.length]? = some r) (hfit : A.length + cs.length ≤ cols)
    (hY : Y.heap = W.heap) (hb : Below B W Y) :
    Sht ((Y.setRow r (flatC (splice (padP cols A) A.length cs)).toArray).setCell ⟨sb, 2, none⟩ (n64 (A.length + cs.length))) B sb cols (D ++ [padP cols (A ++ cs)]) (A ++ cs).length v rs ∧
      KpS B W ((Y.setRow r (flatC (splice (padP cols A) A.length cs)).toArray).setCell ⟨sb, 2, none⟩ (n64 (A.length + cs.length))) := by
  have hl : (D ++ [padP cols A])[D.length]? = some (padP cols A) := by simp
  obtain ⟨p, q, z⟩ := h.rows _ r _ hr hl
  have pY : Y.heap[r]? = _ := (by rw [hY] : Y.heap[r]? = W.heap[r]?).trans p
  have bY : Y.heap[sb]? = _ := (by rw [hY] : Y.heap[sb]? = W.heap[sb]?).trans h.box
  have hne : r ≠ sb := ne_of_types p h.box (by decide)
  have g1 := setRow_heap Y r _ (flatC (splice (padP cols A) A.length cs)).toArray _ _ pY
  have b1 : (Y.setRow r (flatC (splice (padP cols A) A.length cs)).toArray).heap[sb]? = _ := (setRow_other _ _ _ _ (fun e => hne e.symm)).trans bY
  have b2 := heap_setCell_same _ sb 2 _ _ (n64 (A.length + cs.length)) b1
  have hmv : ∀ k : Nat, k ≠ sb → k ≠ r → ((Y.setRow r (flatC (splice (padP cols A) A.length cs)).toArray).setCell ⟨sb, 2, none⟩ (n64 (A.length + cs.length))).heap[k]? = W.heap[k]? := fun k h1 h2 => by
    rw [heap_setCell_other _ _ _ _ h1, setRow_other _ _ _ _ h2, hY]
  have hpo := pad_over hfit
  refine ⟨⟨?_, h.hB, ?_, by simpa using h.rl, ?_, h.nd⟩, ?_⟩
  · rw [List.length_append]; exact b2
  · rw [List.length_append]
    have := h.out
    rw [List.length_append] at this
    exact this.at_ fun k hk => hmv k (fun e => h.out.ne_box h.box (by decide) (by rw [← e]; exact hk)) (fun e => h.out.ne_box p (by decide) (by rw [← e]; exact hk))
  · intro k r' l e1 e2
    by_cases hk : k < D.length
    · rw [List.getElem?_append_left hk] at e2
      have e3 : (D ++ [padP cols A])[k]? = some l := by rw [List.getElem?_append_left hk]; exact e2
      obtain ⟨x, y, t⟩ := h.rows k r' l e1 e3
      have hrr : r' ≠ r := fun e => by
        subst e
        have i1 := List.getElem?_eq_some_iff.1 e1
        have i2 := List.getElem?_eq_some_iff.1 hr
        exact List.pairwise_iff_getElem.1 h.nd k D.length i1.1 i2.1 hk (i1.2.trans i2.2.symm)
      exact ⟨by rw [hmv r' (ne_of_types x h.box (by decide)) hrr]; exact x, y, t⟩
    · have hkl : k = D.length := by
        have := (List.getElem?_eq_some_iff.1 e2).1
        simp at this; omega
      subst hkl
      rw [hr] at e1
      cases e1
      simp at e2
      subst e2
      refine ⟨?_, q, pad_len (by rw [List.length_append]; exact hfit)⟩
      rw [heap_setCell_other _ _ _ _ hne, g1, hpo]
  · have k0 : KpS B W Y := ⟨hb, fun k o e _ => by rw [hY]; exact e⟩
    exact (k0.setRow pY ns_cell q _).setCell b1 ns_sheet h.hB _
def ShA (w : World) (B sb cols : Nat) (S : ShT) : Prop := ∃ v rs, Sht w B sb cols (S.rows cols) S.cur.length v rs ∧ S.cur.length ≤ cols
theorem ShA.later {w w' : World} {B sb cols : Nat} {S : ShT} (h : ShA w B sb cols S) (hb : Below w.heap.size w w') : ShA w' B sb cols S := by
  obtain ⟨v, rs, h, e⟩ := h
  exact ⟨v, rs, h.later hb, e⟩
/-- What a walk reads of a sheet. -/
theorem Sht.last {W : World} {B sb cols : Nat} {D : List RowT} {A : RowT} {col : Nat} {v : Value} {rs : List Nat} (h : Sht W B sb cols (D ++ [A]) col v rs) :
    ∃ g o c r, v = .slice (some ⟨g, o, none⟩) (D.length + 1) c ∧ rs[D.length]? = some r ∧ W.cell? ⟨g, o + D.length, none⟩ = some (rowV cols r) := by
  obtain ⟨r, l, e1, e2, _⟩ := h.rowAt (k := D.length) (by simp)
  obtain ⟨a, c, hv, _, _, hrd, _⟩ := h.out.rd
  obtain ⟨g, o, ea, hc⟩ := hrd D.length (rowV cols r) (by rw [List.getElem?_map, e1]; rfl)
  subst ea
  rw [List.length_append] at hv
  exact ⟨g, o, c, r, hv, e1, hc⟩
theorem put_facts {W : World} {B sb cols : Nat} {D : List RowT} {A : RowT} {v : Value} {rs : List Nat} {r : Nat} (h : Sht W B sb cols (D ++ [padP cols A]) A.length v rs) (hr : rs[D.length]? = some r) (X : Array Value) (Y : World) (hY : Y.heap = W.heap) :
    (Y.setRow r X).cell? ⟨sb, 2, none⟩ = some (n64 A.length) ∧ (Y.setRow r X).frozen? ⟨sb, 2, none⟩ = false := by
  obtain ⟨p, q, z⟩ := h.rows _ r (padP cols A) hr (by simp)
  have bY : Y.heap[sb]? = _ := (by rw [hY] : Y.heap[sb]? = W.heap[sb]?).trans h.box
  have hne : r ≠ sb := ne_of_types p h.box (by decide)
  have b1 : (Y.setRow r X).heap[sb]? = _ := (setRow_other _ _ _ _ (fun e => hne e.symm)).trans bY
  exact ⟨(box_cells b1).2.2.1, (box_cells b1).2.2.2.2.2⟩
set_option maxHeartbeats 4000000 in
set_option maxRecDepth 100000 in
theorem put_calls {w : World} {B sb cols : Nat} {S : ShT} (h : ShA w B sb cols S) (h1 : 1 ≤ cols) (h2 : cols ≤ 120) (hL : S.done.length ≤ 90000) (x : Bs) (hx : x.length ≤ 100000) :
    Calls Tryd.prog 41 #[sptr sb, str x] w fun e w' => e = .returned (.tuple #[n64 (placeP cols S x).1, n64 (placeP cols S x).2]) ∧ ShA w' B sb cols (putP cols S x) ∧ KpS B w w' := by
  obtain ⟨v, rs, hs, hcur⟩ := h
  have hBw : B ≤ w.heap.size := Nat.le_trans hs.hB (Nat.le_of_lt (lt_of_heap hs.box))
  obtain ⟨cs, hcs⟩ : ∃ cs, cs = cellsP cols x false := ⟨_, rfl⟩
  have hcn := cells_len cols x false h1
  have CL := Lib.hid (cells_calls x hx false sb cols w hs.cells.1 (lt_of_heap hs.box))
  rw [← hcs] at CL hcn
  obtain ⟨c0, c1, c2, f0, f1, f2⟩ := hs.cells
  have HS := Lib.hid (fun (W : World) (hb : Below w.heap.size w W) => hs.later hb)
  have HC := Lib.hid (fun (W : World) (hb : Below w.heap.size w W) => (hs.later hb).cells)
  have hfo : Tryd.prog.follows Departure.mixedOrders = true := by kernel_rfl
  obtain ⟨T, hT⟩ : ∃ T, T = fitP cols S cs.length := ⟨_, rfl⟩
  have HP := Lib.hid (show putP cols S x = ⟨T.done, T.cur ++ cs⟩ by unfold putP; rw [← hcs, ← hT])
  have HQ := Lib.hid (show placeP cols S x = (T.done.length, T.cur.length) by unfold placeP; rw [← hcs, ← hT])
  rw [HP.out, HQ.out]
  obtain ⟨m, hm⟩ : ∃ m, m = cs.length := ⟨_, rfl⟩
  have HM := Lib.hid hm
  rw [← hm] at CL hcn hT
  obtain ⟨D2, A2⟩ := T
  dsimp only
  obtain ⟨N, hN⟩ : ∃ N, N = D2.length := ⟨_, rfl⟩
  obtain ⟨y, hy⟩ : ∃ y, y = A2.length := ⟨_, rfl⟩
  rw [← hN, ← hy]
  by_cases hf : cols < S.cur.length + m
  · have hT2 : (⟨D2, A2⟩ : ShT) = ⟨S.rows cols, []⟩ := by rw [hT]; unfold fitP; rw [if_pos hf]
    obtain ⟨rfl, rfl⟩ := ShT.mk.inj hT2
    obtain ⟨y0, hy0⟩ : ∃ y0, y0 = S.cur.length := ⟨_, rfl⟩
    rw [← hy0] at hf hcur c2
    have hrl : (S.rows cols).length = S.done.length + 1 := by unfold ShT.rows; simp
    have t0 : IntKind.i64.wrap ((y0 : Int) + (m : Int)) = (y0 : Int) + (m : Int) := IntWalk.i64_in _ (by omega)
    have t1 : decide ((cols : Int) < (y0 : Int) + (m : Int)) = true := by simp only [decide_eq_true_eq]; omega
    have t2 : (cols : Int) < (y0 : Int) + (m : Int) := by omega
    have HYZ := Lib.hid (show y = 0 by rw [hy]; rfl)
    have HNN := Lib.hid (show N ≤ 100000 by rw [hN, hrl]; omega)
    have HR := Lib.hid (fun (W : World) (hb : Below w.heap.size w W) => row_calls (HS.out W hb) h1 h2 (by rw [hrl]; omega))
    have HC2 := Lib.hid (fun (W : World) (hb : Below w.heap.size w W) => show W.cell? ⟨sb, 0, none⟩ = some (n64 cols) ∧ W.cell? ⟨sb, 2, none⟩ = some (n64 y0) from ⟨(HC.out W hb).1, hy0 ▸ (HC.out W hb).2.2.1⟩)
    have HB0 := Lib.hid hBw
    obtain ⟨D2, hD2⟩ : ∃ D2, D2 = S.rows cols := ⟨_, rfl⟩
    obtain ⟨A2, hA2⟩ : ∃ A2 : RowT, A2 = [] := ⟨_, rfl⟩
    have hpb : blanks cols = padP cols A2 := by rw [hA2]; unfold padP; simp
    rw [hpb] at HR
    rw [← hD2] at HR hN ⊢
    rw [← hA2] at hy ⊢
    rw [show (0 : Nat) = A2.length by rw [hA2]; rfl] at HR
    clear hcs hm c0 c1 c2 f0 f1 f2 HS HC HP HQ hT hT2 hpb hD2 hA2 hy0 hrl hBw hs hcur hL
    go_enter Tryd.func41, Tryd.ntmps41
    go_wp2_with (refine CL.out.mono ?_; rintro e w1 ⟨b, rfl, hbl, hcb, b1⟩; obtain ⟨c0, c2⟩ := HC2.out w1 b1)
    go_region
    have B1 := Lib.hid b1
    have b1d : Below w.heap.size w w1.drew := b1.drew
    clear c0 c2
    go_wp2_with (refine (HR.out _ b1d).mono ?_; rintro e w2 ⟨rfl, v2, rs2, S1, kp, kc⟩)
    have hrd := rd_cells (kc _ _ _ hcb)
    have n1 := HYZ.out
    have n2 : N ≤ 100000 := HNN.out
    have KP := Lib.hid kp
    have hlast : (D2 ++ [padP cols A2])[D2.length]? = some (padP cols A2) := by simp
    obtain ⟨g, o, c', r, hv, er, hc⟩ := S1.last
    subst hv
    have CP := copy_at S1 er hlast hrd (x := A2.length) (by rw [← HM.out, ← hy]; omega) w2.drew.drew rfl
    obtain ⟨k2, k3⟩ := put_facts S1 er (flatC (splice (padP cols A2) A2.length cs)).toArray w2.drew.drew rfl
    have FIN := Lib.hid (put_fin (cs := cs) S1 er (by rw [← HM.out, ← hy]; omega) (Y := w2.drew.drew) rfl ⟨rfl, rfl, rfl, Nat.le_refl _, fun _ _ => rfl⟩)
    rw [← HM.out] at CP FIN
    obtain ⟨X, hX⟩ : ∃ X, X = (flatC (splice (padP cols A2) A2.length cs)).toArray := ⟨_, rfl⟩
    rw [← hX] at CP k2 k3 FIN
    obtain ⟨c0, c1, c2, f0, f1, f2⟩ := S1.cells
    rw [← hy] at CP k2 FIN c2
    rw [← hN] at hc c1
    have z1 : ¬ cols = y := by omega
    have z2 : IntKind.i64.wrap (N : Int) = N := IntWalk.i64_in _ (by omega)
    have z3 : IntKind.i64.wrap ((N : Int) + 1 - 1) = N := by rw [IntKind.wrap_i64]; omega
    have z4 : (y : Int) ≤ (cols : Int) := by omega
    have z5 : (N : Int) < (N : Int) + 1 := by omega
    have t3 : IntKind.i64.wrap ((y : Int) + (m : Int)) = (y : Int) + (m : Int) := IntWalk.i64_in _ (by omega)
    have HLE : Hid ((A2 ++ cs).length ≤ cols) := Lib.hid (by rw [List.length_append, ← HM.out, ← hy]; omega)
    clear S1 hlast hX hrd hcb hbl hN hy HM kp kc b1 b1d n1 n2 hcn f0 f1 f2 er
    go_region
    go_wp2
    go_region
    all_goals
      go_wp2
      rw [show Value.int .i64 ((y : Int) + (m : Int)) = n64 (y + m) from by simp]
      go_returns
      exact ⟨rfl, ⟨_, _, FIN.out.1, HLE.out⟩, ((KpS.of_below (B1.out.drew) HB0.out).trans KP.out).trans FIN.out.2⟩
  · have hT2 : (⟨D2, A2⟩ : ShT) = S := by rw [hT]; unfold fitP; rw [if_neg hf]
    subst hT2
    dsimp only at hf hcur hL
    rw [← hy] at hf
    have t1 : decide ((cols : Int) < (y : Int) + (m : Int)) = false := by simp only [decide_eq_false_iff_not]; omega
    have t2 : ¬ ((cols : Int) < (y : Int) + (m : Int)) := by omega
    have HB0 := Lib.hid hBw
    clear hcs hm c0 c1 c2 f0 f1 f2 HC HP HQ hT
    go_enter Tryd.func41, Tryd.ntmps41
    go_wp2_with (refine CL.out.mono ?_; rintro e w1 ⟨b, rfl, hbl, hcb, b1⟩; have hrd := rd_cells hcb)
    have S1 : Sht w1 B sb cols (D2 ++ [padP cols A2]) A2.length v rs := HS.out w1 b1
    have HB1 := Lib.hid b1
    have hlast : (D2 ++ [padP cols A2])[D2.length]? = some (padP cols A2) := by simp
    obtain ⟨g, o, c', r, hv, er, hc⟩ := S1.last
    subst hv
    have CP := copy_at S1 er hlast hrd (x := A2.length) (by rw [← HM.out, ← hy]; omega) w1.drew.drew.drew rfl
    obtain ⟨k2, k3⟩ := put_facts S1 er (flatC (splice (padP cols A2) A2.length cs)).toArray w1.drew.drew.drew rfl
    have FIN := Lib.hid (put_fin (cs := cs) S1 er (by rw [← HM.out, ← hy]; omega) (Y := w1.drew.drew.drew) rfl ⟨rfl, rfl, rfl, Nat.le_refl _, fun _ _ => rfl⟩)
    rw [← HM.out] at CP FIN
    obtain ⟨X, hX⟩ : ∃ X, X = (flatC (splice (padP cols A2) A2.length cs)).toArray := ⟨_, rfl⟩
    rw [← hX] at CP k2 k3 FIN
    obtain ⟨c0, c1, c2, f0, f1, f2⟩ := S1.cells
    rw [← hy] at CP k2 FIN c2
    rw [← hN] at hc c1
    have z1 : ¬ cols = y := by omega
    have z2 : IntKind.i64.wrap (N : Int) = N := IntWalk.i64_in _ (by omega)
    have z3 : IntKind.i64.wrap ((N : Int) + 1 - 1) = N := by rw [IntKind.wrap_i64]; omega
    have z4 : (y : Int) ≤ (cols : Int) := by omega
    have z5 : (N : Int) < (N : Int) + 1 := by omega
    have t3 : IntKind.i64.wrap ((y : Int) + (m : Int)) = (y : Int) + (m : Int) := IntWalk.i64_in _ (by omega)
    have HLE : Hid ((A2 ++ cs).length ≤ cols) := Lib.hid (by rw [List.length_append, ← HM.out, ← hy]; omega)
    clear HS hs S1 hlast hX hrd hcb hbl hN hy HM b1 hcn f0 f1 f2 er hcur hL hBw
    go_region
    go_wp2
    go_region
    go_wp2
    go_region
    all_goals
      go_wp2
      rw [show Value.int .i64 ((y : Int) + (m : Int)) = n64 (y + m) from by simp]
      go_returns
      exact ⟨rfl, ⟨_, _, FIN.out.1, HLE.out⟩, (KpS.of_below HB1.out HB0.out).trans FIN.out.2⟩
end Go.Proofs.YtfgjhfmgacopoaaDoor
