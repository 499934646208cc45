import Derived.Test.YtfgjhfmgacopoaaDoorLo7
import Derived.RangeFuncNested
import Derived.RangeFuncBound
import Derived.RangeFuncCalls
import Derived.RangeFuncLeaves
import Derived.RangeFuncWrites
import Derived.OwnWalkIn
import Derived.TacticsInMore
import Derived.BigFrameIn
import Derived.StillTailTactics
import Derived.Laws.EntriesVeiled
import Derived.Deep.RegionHeld3
namespace Go.Proofs.YtfgjhfmgacopoaaDoor
set_option linter.unusedVariables false
set_option linter.unusedSimpArgs false
open Go.RowKit Go.Shelf
/-! Chapter 18: the ghost. -/
attribute [local go_sem] Oper.semAt_some
/-- What a ghost's cells are, as long as they have room. -/
def dimC (cols : Nat) (l : List Bs) : RowT := l.flatMap fun c => cellsP cols c true
theorem dimC_snoc (cols : Nat) (l : List Bs) (c : Bs) : dimC cols (l ++ [c]) = dimC cols l ++ cellsP cols c true := by simp [dimC]
theorem ghF_pre (cols room : Nat) : (l r : List Bs) → (G : RowT) → G.length + (dimC cols l).length ≤ room → ghF cols room G (l ++ r) = ghF cols room (G ++ dimC cols l) r
  | [], r, G, _ => by simp [dimC]
  | c :: l, r, G, h => by
    have e : dimC cols (c :: l) = cellsP cols c true ++ dimC cols l := by simp [dimC]
    rw [e, List.length_append] at h
    rw [List.cons_append, ghF, if_neg (by omega), ghF_pre cols room l r _ (by rw [List.length_append]; omega), e, List.append_assoc]
theorem ghF_all {cols room : Nat} {l : List Bs} (h : (dimC cols l).length ≤ room) : ghF cols room [] l = dimC cols l := by
  have := ghF_pre cols room l [] [] (by simpa using h)
  simpa [ghF] using this
theorem ghF_stop {cols room : Nat} {l r : List Bs} {c : Bs} (h : (dimC cols l).length ≤ room) (h2 : room < (dimC cols l).length + (cellsP cols c true).length) : ghF cols room [] (l ++ c :: r) = dimC cols l := by
  rw [ghF_pre cols room l (c :: r) [] (by simpa using h), ghF, if_pos (by simpa using h2)]; simp
/-- All blocks of cells are as they were. -/
def CellsKept (W W' : World) : Prop := ∀ (k : Nat) (cs : Array Value) (T : TypeId) (m : Nat × Nat), W.heap[k]? = some (.cells cs T m) → W'.heap[k]? = some (.cells cs T m)
theorem CellsKept.of_grown {W W' : World} {row : Option Nat} (hg : W.grownBy W' row) (hr : ∀ r, row = some r → ∃ o : Obj, W.heap[r]? = some o ∧ o.isCells = false) : CellsKept W W' := fun k cs T m hk =>
  (hg.block k (lt_of_heap hk) (fun e => by obtain ⟨o, ho, hc⟩ := hr k e.symm; rw [hk] at ho; cases ho; cases hc)).trans hk
theorem CellsKept.putObj {W : World} {D : Nat} {o : Obj} (o' : Obj) (h : W.heap[D]? = some o) (ho : o.isCells = false) : CellsKept W (W.putObj D o') :=
  .of_grown (grownBy_putObj' W D o') (fun r e => by cases e; exact ⟨o, h, ho⟩)
theorem Row.keep {w w' : World} {B : Nat} {e : TypeId} {sz : Nat} {v : Value} {n : Nat} {xs : List Value} (h : Row w B e sz v n xs) (hk : CellsKept w w') : Row w' B e sz v n xs := by
  refine h.at_ fun k ek => ?_
  rcases h.2 with ⟨rfl, _⟩ | ⟨g, off, cap, cur, rfl, hb, hg, _⟩
  · simp [Value.ownBlock] at ek
  · simp [Value.ownBlock] at ek
    subst ek; rw [hg]; exact hk _ _ _ _ hg
theorem Sht.keep {w w' : World} {B sb cols : Nat} {L : List RowT} {col : Nat} {v : Value} {rs : List Nat} (h : Sht w B sb cols L col v rs) (hk : CellsKept w w') : Sht w' B sb cols L col v rs :=
  ⟨hk _ _ _ _ h.box, h.hB, h.out.keep hk, h.rl, fun k r l e f => by
    obtain ⟨x, y, z⟩ := h.rows k r l e f
    exact ⟨hk _ _ _ _ x, y, z⟩, h.nd⟩
theorem GhB.keep {w w' : World} {sb b4 b11 b7 b9 b6 a c r k : Nat} (h : GhB w sb b4 b11 b7 b9 b6 a c r k) (hk : CellsKept w w') : GhB w' sb b4 b11 b7 b9 b6 a c r k :=
  ⟨hk _ _ _ _ h.s, hk _ _ _ _ h.a, hk _ _ _ _ h.c, hk _ _ _ _ h.r, hk _ _ _ _ h.k, h.n7, h.n9, h.n6⟩
theorem KpB.own {β : Type} {B b base : Nat} {w0 : World} (hB : B ≤ base) (hBw : B ≤ w0.heap.size) (h0 : w0.heap.size ≤ base) : OwnFrom base (fun (_ : β) W => KpB B b w0 W) :=
  fun s W W' row hs hg hr => ⟨hs.bel.grown hg (Nat.le_trans hBw hs.bel.size) (fun k e => Nat.le_trans hB (hr k e).1), fun k o e f g => by
    have e' := hs.off k o e f g
    exact (hg.block k (lt_of_heap e') (fun er => by have := (hr k er.symm).1; have := lt_of_heap e; omega)).trans e'⟩
theorem KpB.others {B b : Nat} {W W' : World} (h : KpB B b W W') {T : TypeId} {v : Value} (hb : Boxed W b T v) : KeepsOthers W W' :=
  ⟨h.bel.size, fun k o e f => h.off k o e (by cases o <;> first | trivial | cases f) (fun ek => by subst ek; rw [show W.heap[k]? = _ from hb] at e; cases e; cases f)⟩
theorem KpB.toS {B b : Nat} {w w6 W : World} (h : KpB B b w6 W) (h0 : Below w.heap.size w w6) (hb : w.heap.size ≤ b) (hB : B ≤ w.heap.size) : KpS B w W :=
  ⟨(h0.mono hB).trans h.bel, fun k o e f => h.off k o ((h0.block k (lt_of_heap e)).trans e) f (by have := lt_of_heap e; omega)⟩
theorem KpS.putObj {B : Nat} {w W : World} (h : KpS B w W) {D : Nat} (o' : Obj) (hD : w.heap.size ≤ D) (hB : B ≤ w.heap.size) : KpS B w (W.putObj D o') :=
  ⟨h.bel.grown (grownBy_putObj' W D o') (Nat.le_trans hB h.bel.size) (fun k e => by cases e; omega), fun k o e f => (World.putObj_heap_other (by have := lt_of_heap e; omega)).trans (h.off k o e f)⟩
theorem setRow_setRow (w : World) (g : Nat) (a b : Array Value) : (w.setRow g a).setRow g b = w.setRow g b := by
  unfold World.setRow
  congr 1
  apply Array.ext
  · simp
  · intro i h1 h2
    simp only [Array.getElem_modify]
    split
    · cases w.heap[i]'(by simpa using h2) <;> rfl
    · rfl
theorem set3 {w : World} {g : Nat} {c : Array Value} {T : TypeId} (h : w.heap[g]? = some (.cells c T (0, 0))) (i j k : Nat) (x y z : Value) :
    ((w.setCell ⟨g, i, none⟩ x).setCell ⟨g, j, none⟩ y).setCell ⟨g, k, none⟩ z = w.setRow g (((c.setIfInBounds i x).setIfInBounds j y).setIfInBounds k z) := by
  have h1 := heap_setCell_same _ g i _ _ x h
  have h2 := heap_setCell_same _ g j _ _ y h1
  rw [setCell_eq_setRow _ g k _ _ _ z h2, setCell_eq_setRow _ g j _ _ _ y h1, setCell_eq_setRow _ g i _ _ _ x h, setRow_setRow, setRow_setRow]
theorem set3_list (P R : List Value) (x y z a b d : Value) : (((P ++ x :: y :: z :: R).set P.length a).set (P.length + 1) b).set (P.length + 2) d = P ++ a :: b :: d :: R := by
  simp
theorem set3_flat {l : RowT} {n : Nat} (h : n < l.length) (c : CellT) :
    ((((flatC l).toArray.setIfInBounds (n * 3) (str c.s)).setIfInBounds (n * 3 + 1) (.int .i64 c.wd)).setIfInBounds (n * 3 + 2) (.bool c.dim)) = (flatC (splice l n [c])).toArray := by
  have e : l = l.take n ++ l[n] :: l.drop (n + 1) := by rw [← List.drop_eq_getElem_cons h, List.take_append_drop]
  have e1 : (flatC (l.take n)).length = n * 3 := by rw [flatC_len, List.length_take, Nat.min_eq_left (by omega)]
  have e2 : flatC l = flatC (l.take n) ++ str l[n].s :: Value.int .i64 l[n].wd :: Value.bool l[n].dim :: flatC (l.drop (n + 1)) := by
    conv => lhs; rw [e, flatC_app]
    rfl
  have e3 : flatC (splice l n [c]) = flatC (l.take n) ++ str c.s :: Value.int .i64 c.wd :: Value.bool c.dim :: flatC (l.drop (n + 1)) := by
    unfold splice
    rw [flatC_app, flatC_app]
    simp [flatC, cellV]
  rw [e3, ← set3_list (flatC (l.take n)) (flatC (l.drop (n + 1))) (str l[n].s) (.int .i64 l[n].wd) (.bool l[n].dim), ← e2, e1]
  simp
/-- The three cells of one of a row's. -/
theorem cell3 {w : World} {g : Nat} {c : Array Value} {T : TypeId} (h : w.heap[g]? = some (.cells c T (0, 0))) {i : Nat} (hi : i + 2 < c.size) :
    (∃ u, w.cell? ⟨g, i, none⟩ = some u) ∧ w.frozen? ⟨g, i, none⟩ = false ∧ (∃ u, w.cell? ⟨g, i + 1, none⟩ = some u) ∧ w.frozen? ⟨g, i + 1, none⟩ = false ∧
      (∃ u, w.cell? ⟨g, i + 2, none⟩ = some u) ∧ w.frozen? ⟨g, i + 2, none⟩ = false := by
  refine ⟨?_, frozen_of_row _ _ _ _ _ h, ?_, frozen_of_row _ _ _ _ _ h, ?_, frozen_of_row _ _ _ _ _ h⟩
  · rw [cell_of_row _ _ _ _ _ (0, 0) h]; exact ⟨_, Array.getElem?_eq_getElem (by omega)⟩
  · rw [cell_of_row _ _ _ _ _ (0, 0) h]; exact ⟨_, Array.getElem?_eq_getElem (by omega)⟩
  · rw [cell_of_row _ _ _ _ _ (0, 0) h]; exact ⟨_, Array.getElem?_eq_getElem (by omega)⟩
/-- What stands in a round of the ghost's loop. -/
def GhI {L : Nat} (w0 : World) (B sb cols : Nat) (D : List RowT) (A : RowT) (col : Nat) (v : Value) (rs : List Nat) (b4 b11 b7 b9 b6 room : Nat) (pre : List (Cl L)) (W : World) : Prop :=
  (dimC cols (cls pre)).length ≤ room ∧ Sht W B sb cols (D ++ [padP cols (A ++ dimC cols (cls pre))]) col v rs ∧ GhB W sb b4 b11 b7 b9 b6 (A ++ dimC cols (cls pre)).length A.length room D.length ∧ KpB B b11 w0 W
def GhX {L : Nat} (w0 : World) (B sb cols : Nat) (D : List RowT) (A : RowT) (col : Nat) (v : Value) (rs : List Nat) (b4 b11 b7 b9 b6 room : Nat) (c : Code) (pre' : List (Cl L)) (W : World) : Prop :=
  c = .exit 0 ∧ ∃ pre x, pre' = pre ++ [x] ∧ room < (dimC cols (cls pre)).length + (cellsP cols x.1.2 true).length ∧ GhI w0 B sb cols D A col v rs b4 b11 b7 b9 b6 room pre W
theorem ghI_own {L base : Nat} {w0 : World} {B sb cols : Nat} {D : List RowT} {A : RowT} {col : Nat} {v : Value} {rs : List Nat} {b4 b11 b7 b9 b6 room : Nat} (hB : B ≤ base) (hBw : B ≤ w0.heap.size) (h0 : w0.heap.size ≤ base) :
    OwnFrom base (fun (pre : List (Cl L)) W => GhI w0 B sb cols D A col v rs b4 b11 b7 b9 b6 room pre W) := fun s W W' row ⟨x, y, z, t⟩ hg hr => by
  have hk := CellsKept.of_grown hg (fun r e => (hr r e).2)
  exact ⟨x, y.keep hk, z.keep hk, KpB.own (β := Unit) hB hBw h0 () W W' row t hg hr⟩
theorem ghX_own {L base : Nat} {w0 : World} {B sb cols : Nat} {D : List RowT} {A : RowT} {col : Nat} {v : Value} {rs : List Nat} {b4 b11 b7 b9 b6 room : Nat} (hB : B ≤ base) (hBw : B ≤ w0.heap.size) (h0 : w0.heap.size ≤ base) (c : Code) :
    OwnFrom base (fun (pre : List (Cl L)) W => GhX w0 B sb cols D A col v rs b4 b11 b7 b9 b6 room c pre W) := fun s W W' row ⟨x, pre, y, e, f, i⟩ hg hr =>
  ⟨x, pre, y, e, f, ghI_own hB hBw h0 pre W W' row i hg hr⟩
theorem GhI.later {L : Nat} {w0 W W' : World} {B sb cols : Nat} {D : List RowT} {A : RowT} {col : Nat} {v : Value} {rs : List Nat} {b4 b11 b7 b9 b6 room : Nat} {pre : List (Cl L)} (h : GhI w0 B sb cols D A col v rs b4 b11 b7 b9 b6 room pre W) (hb : Below W.heap.size W W') (hB : B ≤ W.heap.size) :
    GhI w0 B sb cols D A col v rs b4 b11 b7 b9 b6 room pre W' := by
  obtain ⟨x, y, z, t⟩ := h
  have hk : CellsKept W W' := fun k cs T m e => (hb.block k (lt_of_heap e)).trans e
  exact ⟨x, y.keep hk, z.keep hk, t.trans (KpB.of (KpS.of_below hb hB))⟩
theorem pre_cuts {L : Nat} {p : List (Cl L)} {cs : List Bs} (h : val p <+: ats 0 cs) : ∃ r, cs = cls p ++ r := by
  obtain ⟨t, ht⟩ := h
  have e : ∀ (k : Nat) (cs : List Bs), (ats k cs).map Prod.snd = cs := fun k cs => by
    induction cs generalizing k with
    | nil => rfl
    | cons c cs ih => simp [ats, ih]
  have := congrArg (List.map Prod.snd) ht
  rw [e, List.map_append] at this
  exact ⟨t.map Prod.snd, by rw [← this]; simp [val, cls]⟩
set_option maxHeartbeats 4000000 in
set_option maxRecDepth 100000 in
theorem ghost_calls {w : World} {B sb cols : Nat} {D : List RowT} {A : RowT} {col : Nat} {v : Value} {rs : List Nat} (h : Sht w B sb cols (D ++ [padP cols A]) col v rs) (h1 : 1 ≤ cols) (h2 : cols ≤ 120) (hL : D.length ≤ 100000)
    (hA : A.length < cols) (g : Bs) (hg : g.length ≤ 100000) :
    Calls Tryd.prog 43 #[sptr sb, str g, n64 D.length, n64 A.length] w fun e w' =>
      e = .returned (n64 (A ++ ghostP cols A.length g).length) ∧ Sht w' B sb cols (D ++ [padP cols (A ++ ghostP cols A.length g)]) col v rs ∧ KpS B w w' := by
  obtain ⟨c0, c1, c2, f0, f1, f2⟩ := h.cells
  obtain ⟨N, hN⟩ : ∃ N, N = D.length := ⟨_, rfl⟩
  obtain ⟨z, hz⟩ : ∃ z, z = A.length := ⟨_, rfl⟩
  have SU := Lib.hid (fun W => Sum_calls g (by omega) _ rfl W)
  have hlt := lt_of_heap h.box
  rw [← hz] at hA
  have t0 : IntKind.i64.wrap ((cols : Int) - (z : Int)) = (cols : Int) - (z : Int) := IntWalk.i64_in _ (by omega)
  rw [← hz, ← hN]
  have HN0 := Lib.hid hN
  have HZ0 := Lib.hid hz
  clear hN hz
  refine (callsIn_wide (n := 9)).1 ?_
  refine callsIn_of_wp_marks Tryd.func43 rfl trivial ?_ rfl
  simp only [Tryd.ntmps43, List.size_toArray, List.length_cons, List.length_nil, Nat.reduceAdd, Nat.reduceSub, Array.replicate_succ, Array.replicate_zero, List.push_toArray, List.append_toArray, List.nil_append, List.cons_append]
  refine wpIn_wide.2 ?_
  go_wp2_with fail
  obtain ⟨w3, hw3⟩ : ∃ w3, w3 = (((w.alloc (.cells #[sptr sb] 71)).alloc (.cells #[n64 N] 3)).alloc (.cells #[n64 z] 3)) := ⟨_, rfl⟩
  have B4 : Boxed w3 w.heap.size 71 (sptr sb) := by rw [hw3]; exact ((Boxed.new w _ _).alloc _).alloc _
  have B6 : Boxed w3 (w.heap.size + 1) 3 (n64 N) := by
    have := Boxed.new (w.alloc (.cells #[sptr sb] 71)) 3 (n64 N)
    rw [World.size_alloc] at this
    rw [hw3]; exact this.alloc _
  have B7 : Boxed w3 (w.heap.size + 1 + 1) 3 (n64 z) := by
    have := Boxed.new ((w.alloc (.cells #[sptr sb] 71)).alloc (.cells #[n64 N] 3)) 3 (n64 z)
    rw [World.size_alloc, World.size_alloc] at this
    rw [hw3]; exact this
  have hb3 : Below w.heap.size w w3 := by rw [hw3]; exact (((Below.refl _ w).alloc (Nat.le_refl _) _).alloc (by simp) _).alloc (by simp; omega) _
  have k0 : w3.cell? ⟨sb, 0, none⟩ = some (n64 cols) := (hb3.cell hlt).trans c0
  have k4 := B4.cell
  have k7 := B7.cell
  have hfo : Tryd.prog.follows Departure.mixedOrders = true := by kernel_rfl
  rw [← hw3]
  clear hw3
  have hs3 : w.heap.size + 1 + 1 < w3.heap.size := B7.lt
  obtain ⟨b4, hb4⟩ : ∃ b4, b4 = w.heap.size := ⟨_, rfl⟩
  obtain ⟨b6, hb6⟩ : ∃ b6, b6 = w.heap.size + 1 := ⟨_, rfl⟩
  obtain ⟨b7, hb7⟩ : ∃ b7, b7 = w.heap.size + 1 + 1 := ⟨_, rfl⟩
  rw [← hb7] at B7 k7 hs3 ⊢
  rw [← hb6] at B6 ⊢
  rw [← hb4] at B4 k4 ⊢
  have H4 := Lib.hid hb4
  have H6 := Lib.hid hb6
  have H7 := Lib.hid hb7
  clear hb4 hb6 hb7
  have j0 := Lib.cell?_alloc_some (.cells #[.int .i64 0] 3) k0
  have j4 := Lib.cell?_alloc_some (.cells #[.int .i64 0] 3) k4
  have j7 := Lib.cell?_alloc_some (.cells #[.int .i64 0] 3) k7
  go_region
  obtain ⟨rm, hrm⟩ : ∃ rm : Nat, rm = cols - z := ⟨_, rfl⟩
  have e0 : Value.int .i64 ((cols : Int) - (z : Int)) = n64 rm := by rw [hrm]; congr 1; omega
  rw [e0]
  obtain ⟨w4, hw4⟩ : ∃ w4, w4 = (w3.alloc (.cells #[n64 rm] 3)).drew := ⟨_, rfl⟩
  obtain ⟨b9, hb9⟩ : ∃ b9, b9 = w3.heap.size := ⟨_, rfl⟩
  have B9 : Boxed w4 b9 3 (n64 rm) := by rw [hw4, hb9]; exact Boxed.new w3 _ _
  have hb4' : Below w3.heap.size w3 w4 := by rw [hw4]; exact ((Below.refl _ w3).alloc (Nat.le_refl _) _).drew
  rw [← hw4, ← hb9]
  have H9 := Lib.hid hb9
  have HRM := Lib.hid hrm
  have hrl : rm ≤ cols := by omega
  clear hw4 j0 j4 j7 e0 hb9 hrm t0
  have k9 := B9.cell
  have SU4 := Lib.hid (fun (W : World) (hb : Below w4.heap.size w4 W) => show W.cell? ⟨b9, 0, none⟩ = some (n64 rm) from (hb.cell B9.lt).trans k9)
  have hws := wsum_le (cuts g)
  obtain ⟨S, hS⟩ : ∃ S, S = wsum (cuts g) := ⟨_, rfl⟩
  rw [← hS] at SU hws
  have HS := Lib.hid hS
  clear hS
  have w4d : Below w4.heap.size w4 w4.drew := (Below.refl _ _).drew
  go_wp2_with fail
  go_region_held3 (fun w' => w'.cell? ⟨b9, 0, none⟩ = some (n64 rm)) (first | exact k9 | exact k5) ((go_at_call 44; (with_reducible refine (SU.out _).mono ?_); rintro e w5 ⟨rfl, b5⟩; have k5 := SU4.out w5 (w4d.trans b5)))
  have D5 : Below w3.heap.size w3 w5 := hb4'.drew.trans (b5.mono hb4'.drew.size)
  have X4 : Boxed w5 b4 71 (sptr sb) := (D5.block _ B4.lt).trans B4
  have X6 : Boxed w5 b6 3 (n64 N) := (D5.block _ B6.lt).trans B6
  have X7 : Boxed w5 b7 3 (n64 z) := (D5.block _ B7.lt).trans B7
  have X9 : Boxed w5 b9 3 (n64 rm) := (b5.block _ B9.lt).trans B9
  have S5 : Sht w5 B sb cols (D ++ [padP cols A]) col v rs := (h.later hb3).later D5
  have E5 : Below w.heap.size w w5 := hb3.trans (D5.mono hb3.size)
  have k5f := X9.frozen
  clear B4 B6 B7 B9 k0 k4 k7 k9 hb4' b5 SU4 SU w4d c0 c1 c2 f0 f1 f2
  by_cases ho : (rm : Int) < S
  · have ho' : decide ((rm : Int) < S) = true := by simpa using ho
    have x7 := X7.cell
    have hr1 : 1 ≤ rm := by rw [HRM.out]; omega
    obtain ⟨rq, hrq⟩ : ∃ rq : Nat, rq = rm - 1 := ⟨_, rfl⟩
    have e0 : Value.int .i64 ((rm : Int) - 1) = n64 rq := by rw [hrq]; congr 1; omega
    have HRQ := Lib.hid hrq
    have E0 := Lib.hid e0
    have lb : b4 < b9 ∧ b6 < b9 ∧ b7 < b9 := by
      have := H9.out; have := H4.out; have := H6.out; have := H7.out; have := hb3.size; omega
    clear hrq e0
    have z7 := (X7.other (Nat.ne_of_lt lb.2.2) (.int .i64 ((rm : Int) - 1))).cell
    go_wp2_with (go_at_call 40; refine (Each_calls _ _).mono ?_; rintro e w' ⟨rfl, rfl⟩)
    rw [E0.out]
    have D5b : Below w.heap.size w5 (w5.setCell ⟨b9, 0, none⟩ (n64 rq)) := (Below.refl _ _).setCell (by rw [H9.out]; exact hb3.size) _
    have U4 := X4.other (Nat.ne_of_lt lb.1) (n64 rq)
    have U6 := X6.other (Nat.ne_of_lt lb.2.1) (n64 rq)
    have U7 := X7.other (Nat.ne_of_lt lb.2.2) (n64 rq)
    have U9 := X9.set (n64 rq)
    have US := S5.setCell (i := 0) X9 ns_int (n64 rq)
    have hsz : w5.heap.size = (w5.setCell ⟨b9, 0, none⟩ (n64 rq)).heap.size := by simp
    rw [hsz]
    obtain ⟨w5b, hw5b⟩ : ∃ W, W = w5.setCell ⟨b9, 0, none⟩ (n64 rq) := ⟨_, rfl⟩
    rw [← hw5b] at D5b U4 U6 U7 U9 US hsz ⊢
    have E5 := E5.trans D5b
    obtain ⟨w6, hw6⟩ : ∃ w6, w6 = (((w5b.alloc (.cells #[n64 z] 3)).alloc (.cells #[.func (.func 58) #[] #[bptr b4, bptr w5b.heap.size, bptr b7, bptr b9, bptr b6]] 93)).alloc (.cells #[str g] 9)) := ⟨_, rfl⟩
    have Y11 : Boxed w6 w5b.heap.size 3 (n64 z) := by rw [hw6]; exact ((Boxed.new w5b _ _).alloc _).alloc _
    have Y12 : Boxed w6 (w5b.heap.size + 1) 93 (.func (.func 58) #[] #[bptr b4, bptr w5b.heap.size, bptr b7, bptr b9, bptr b6]) := by
      have := Boxed.new (w5b.alloc (.cells #[n64 z] 3)) 93 (.func (.func 58) #[] #[bptr b4, bptr w5b.heap.size, bptr b7, bptr b9, bptr b6])
      rw [World.size_alloc] at this
      rw [hw6]; exact this.alloc _
    have Y13 : Boxed w6 (w5b.heap.size + 1 + 1) 9 (str g) := by
      have := Boxed.new ((w5b.alloc (.cells #[n64 z] 3)).alloc (.cells #[.func (.func 58) #[] #[bptr b4, bptr w5b.heap.size, bptr b7, bptr b9, bptr b6]] 93)) 9 (str g)
      rw [World.size_alloc, World.size_alloc] at this
      rw [hw6]; exact this
    have D6 : Below w5b.heap.size w5b w6 := by rw [hw6]; exact (((Below.refl _ w5b).alloc (Nat.le_refl _) _).alloc (by simp) _).alloc (by simp; omega) _
    have s6 : w6.heap.size = w5b.heap.size + 1 + 1 + 1 := by rw [hw6]; simp
    have Y4 : Boxed w6 b4 71 (sptr sb) := (D6.block _ U4.lt).trans U4
    have Y6 : Boxed w6 b6 3 (n64 N) := (D6.block _ U6.lt).trans U6
    have Y7 : Boxed w6 b7 3 (n64 z) := (D6.block _ U7.lt).trans U7
    have Y9 : Boxed w6 b9 3 (n64 rq) := (D6.block _ U9.lt).trans U9
    have S6 := US.later D6
    have E6 : Below w.heap.size w w6 := E5.trans (D6.mono E5.size)
    have hBw : B ≤ w.heap.size := Nat.le_trans h.hB (Nat.le_of_lt hlt)
    have n7 : b7 ≠ w5b.heap.size := Nat.ne_of_lt U7.lt
    have n9 : b9 ≠ w5b.heap.size := Nat.ne_of_lt U9.lt
    have n6 : b6 ≠ w5b.heap.size := Nat.ne_of_lt U6.lt
    have q5 := E5.size
    rw [← hw6]
    clear hw6 U4 U6 U7 U9 US D6 D5 x7 k5 k5f
    obtain ⟨b11, hb11⟩ : ∃ b, b = w5b.heap.size := ⟨_, rfl⟩
    obtain ⟨b12, hb12⟩ : ∃ b, b = w5b.heap.size + 1 := ⟨_, rfl⟩
    obtain ⟨b13, hb13⟩ : ∃ b, b = w5b.heap.size + 1 + 1 := ⟨_, rfl⟩
    have n11 : b13 ≠ b11 := by omega
    have n12 : b12 ≠ b11 := by omega
    have q11 : w.heap.size ≤ b11 := by omega
    rw [← hb13] at Y13 ⊢
    rw [← hb12] at Y12 ⊢
    rw [← hb11] at Y11 Y12 n7 n9 n6 ⊢
    clear hb11 hb12 hb13 q5
    have gz : GhB w6 sb b4 b11 b7 b9 b6 A.length A.length rq D.length := by
      rw [← HZ0.out, ← HN0.out]
      exact ⟨Y4, Y11, Y7, Y9, Y6, n7, n9, n6⟩
    have I0 : GhI (L := g.length) w6 B sb cols D A col v rs b4 b11 b7 b9 b6 rq [] w6 := ⟨Nat.zero_le _, by simpa [dimC, cls] using S6, by simpa [dimC, cls] using gz, ⟨Below.refl _ _, fun _ _ e _ _ => e⟩⟩
    have hG6 : B ≤ w6.heap.size := Nat.le_trans hBw E6.size
    clear Y4 Y6 Y7 Y9 gz n7 n9 n6
    refine (wpIn_wide (n := 9)).1 ?_
    refine wpIn_rangeFunc_ownG rfl (by omega) (gf := 55) (lb := #[bptr b13]) rfl trivial (enters_of Tryd.func55 (by kernel_rfl) rfl)
      (each_stops (9 - 1) (by omega) g (by omega) b13 w6 _ rfl Y13) KpE.t (KpE.b Y13.lt) (Below.refl _ _) (fun _ => rfl)
      (fun (pre : List (Cl g.length)) W => GhI w6 B sb cols D A col v rs b4 b11 b7 b9 b6 rq pre W)
      (fun c pre W => GhX w6 B sb cols D A col v rs b4 b11 b7 b9 b6 rq c pre W)
      (ghI_own hG6 hG6 (Nat.le_refl _))
      (ghX_own hG6 hG6 (Nat.le_refl _))
      I0
      (fun x : Cl g.length => { tmps := #[sptr sb, str g, n64 N, n64 z, bptr b4, undef, bptr b6, bptr b7, .int .i64 0, bptr b9, .bool true, bptr b11, bptr b12, undef, str x.1.2, sptr sb, bptr sb, bptr sb, n64 cols, n64 z, n64 rm, str g, .int .i64 S, n64 rm, .bool true, .bool true, n64 rm, n64 rq, n64 z, .func (.func 58) #[] #[bptr b4, bptr b11, bptr b7, bptr b9, bptr b6], str g, .func (.func 55) #[] #[bptr b13], n64 x.1.1, str x.1.2, undef, undef, undef, undef, undef, undef, undef, undef, undef, undef, undef, undef, undef, undef, undef, undef, undef, undef], defers := [] }) ?assign ?body ?done ?stop
    case assign =>
      intro yl x W K hK
      unfold encs
      gi_wp2
      exact hK
    case body =>
      rintro yl pre x W ⟨hfit, hS, hG, hK⟩ hlt
      have Z12 : Boxed W b12 93 (.func (.func 58) #[] #[bptr b4, bptr b11, bptr b7, bptr b9, bptr b6]) := hK.off _ _ Y12 ⟨by decide, by decide, by decide⟩ n12
      have k12 := Z12.cell
      have Z13 : Boxed W b13 9 (str g) := hK.off _ _ Y13 ⟨by decide, by decide, by decide⟩ n11
      have hxl := x.2
      have GC := ghost1_calls hS h1 h2 hL hG (by rw [← HZ0.out, HRQ.out, HRM.out]; omega) hfit (by omega) x.1.2 (by omega)
      have hcl : dimC cols (cls (pre ++ [x])) = dimC cols (cls pre) ++ cellsP cols x.1.2 true := by
        rw [← dimC_snoc]; simp [cls]
      have HCL := Lib.hid hcl
      have HI := Lib.hid (show GhI w6 B sb cols D A col v rs b4 b11 b7 b9 b6 rq pre W from ⟨hfit, hS, hG, hK⟩)
      by_cases hf : rq < (dimC cols (cls pre)).length + (cellsP cols x.1.2 true).length
      · have C1 : Calls Tryd.prog 58 #[str x.1.2, bptr b4, bptr b11, bptr b7, bptr b9, bptr b6] W fun e w' => e = .returned (.bool false) ∧ Below W.heap.size W w' :=
          GC.mono fun e w' he => by rcases he with ⟨_, a, b⟩ | ⟨n, _⟩; · exact ⟨a, b⟩
                                    · exact absurd hf n
        have HF := Lib.hid hf
        have HC := Lib.hid C1
        clear GC C1 hf hcl hS hG hK Z12 Y12 Y13 I0 E6 S6 E5 hb3 hfit hxl h hlt
        gi_wp2_with (refine ⟨trivial, ?_⟩; gi_at_call 58; refine (CallsIn.inRound yl (callsIn_wide.2 HC.out)).mono ?_; rintro e w7 ⟨rfl, bb7⟩)
        exact ⟨(keepsOthers_of_below bb7).from _, rfl, pre, x, rfl, HF.out, HI.out.later bb7 (Nat.le_trans hG6 HI.out.2.2.2.bel.size)⟩
      · have C1 : Calls Tryd.prog 58 #[str x.1.2, bptr b4, bptr b11, bptr b7, bptr b9, bptr b6] W fun e w' => e = .returned (.bool true) ∧ Sht w' B sb cols (D ++ [padP cols (A ++ (dimC cols (cls pre) ++ cellsP cols x.1.2 true))]) col v rs ∧
            GhB w' sb b4 b11 b7 b9 b6 (A ++ (dimC cols (cls pre) ++ cellsP cols x.1.2 true)).length A.length rq D.length ∧ KpB B b11 W w' :=
          GC.mono fun e w' he => by rcases he with ⟨n, _⟩ | ⟨_, a⟩; · exact absurd n hf
                                    · exact a
        rw [← hcl] at C1
        have HF := Lib.hid hf
        have HC := Lib.hid C1
        have HZ := Lib.hid Z13
        have HGA := Lib.hid hG.a
        clear GC C1 hf hcl hS hG hK Z12 Y12 Y13 I0 E6 S6 E5 hb3 hfit hxl h hlt Z13
        gi_wp2_with (refine ⟨trivial, ?_⟩; gi_at_call 58; refine (CallsIn.inRound yl (callsIn_wide.2 HC.out)).mono ?_; rintro e w7 ⟨rfl, hS7, hG7, hK7⟩)
        have ho7 := hK7.others HGA.out
        exact ⟨ho7.from _, ⟨keepsWalks_of ho7, (hK7.off b13 _ HZ.out ⟨by decide, by decide, by decide⟩ n11).trans (show W.heap[b13]? = _ from HZ.out).symm⟩,
          by have := HF.out; rw [HCL.out, List.length_append]; omega, hS7, hG7, HI.out.2.2.2.trans hK7⟩
    case done =>
      rintro Dn ys W hD hys ⟨hfit, hS, hG, hK⟩ hKd
      have hcl := cls_val hys
      have hgh : ghostP cols A.length g = dimC cols (cls ys) ++ [dotsC] := by
        unfold ghostP overP
        rw [if_pos (by simp only [decide_eq_true_eq]; rw [← HS.out, ← HZ0.out, ← HRM.out]; exact ho), ← HZ0.out, ← HRM.out, ← HRQ.out]
        rw [hcl] at hfit ⊢
        rw [ghF_all hfit]
      have HGH := Lib.hid hgh
      obtain ⟨G, hGG⟩ : ∃ G, G = dimC cols (cls ys) := ⟨_, rfl⟩
      rw [← hGG] at hfit hS hG HGH
      obtain ⟨A2, hA2⟩ : ∃ A2, A2 = A ++ G := ⟨_, rfl⟩
      have hl2 : A2.length < cols := by
        rw [hA2, List.length_append, ← HZ0.out]
        have := HRQ.out; have := HRM.out; omega
      rw [← hA2] at hS hG
      have ca := hG.a.cell
      have cs := hG.s.cell
      have ck := hG.k.cell
      have fa := hG.a.frozen
      rw [← HN0.out] at ck
      obtain ⟨y, hy⟩ : ∃ y, y = A2.length := ⟨_, rfl⟩
      have HY := Lib.hid hy
      rw [← hy] at ca hl2
      obtain ⟨g0, o0, c0, r0, hv, er, hc⟩ := hS.last
      have cl := hS.cells.2.1
      rw [hv, ← HN0.out] at cl
      rw [← HN0.out] at hc
      have z5 : (N : Int) < (N : Int) + 1 := by omega
      have z6 : (y : Int) < (cols : Int) := by omega
      have hlast : (D ++ [padP cols A2])[D.length]? = some (padP cols A2) := by simp
      obtain ⟨hrw, hBr, hrl0⟩ := hS.rows _ _ _ er hlast
      obtain ⟨⟨u1, m1⟩, f1, ⟨u2, m2⟩, f2, ⟨u3, m3⟩, f3⟩ := cell3 hrw (i := y * 3) (by simp only [List.size_toArray]; rw [flatC_len, hrl0]; omega)
      have FIN := Lib.hid (hS.over (cs := [dotsC]) er (by simp only [List.length_singleton]; omega) (Y := W.drew) rfl ⟨rfl, rfl, rfl, Nat.le_refl _, fun _ _ => rfl⟩)
      have FG := Lib.hid (hG.move FIN.out.2.off)
      have e3 := set3 (w := W.drew) hrw (y * 3) (y * 3 + 1) (y * 3 + 2) (str dotsC.s) (.int .i64 dotsC.wd) (.bool dotsC.dim)
      rw [hy, set3_flat (by rw [hrl0, ← hy]; exact hl2), ← hy] at e3
      have HE3 := Lib.hid e3
      have hne : b11 ≠ r0 := ne_of_types hG.a hrw (by decide)
      have hne' : r0 ≠ b11 := fun e => hne e.symm
      have HKK := Lib.hid hK
      have HKD := Lib.hid hKd
      clear e3 hBr hrw hv hlast hw5b hsz S5 X4 X6 X7 X9 D5b lb
      have HAA := Lib.hid hA2
      have HE6 := Lib.hid E6
      clear hgh hcl hys hGG hA2 hK Y11 Y12 Y13 I0 E6 S6 E5 hb3 h hlt hy hG hS hKd
      go_wp2_with fail
      go_still_tail 10, (by kernel_rfl)
      change wpList _ _ _ _ _ W.drew
      obtain ⟨Wd, hWd⟩ : ∃ Wd, Wd = W.drew := ⟨_, rfl⟩
      have d1 : Wd.cell? ⟨b11, 0, none⟩ = some (n64 y) := by rw [hWd]; exact ca
      have d2 : Wd.frozen? ⟨b11, 0, none⟩ = false := by rw [hWd]; exact fa
      have k1 : Wd.cell? ⟨r0, y * 3, none⟩ = some u1 := by rw [hWd]; exact m1
      have k2 : Wd.cell? ⟨r0, y * 3 + 1, none⟩ = some u2 := by rw [hWd]; exact m2
      have k3 : Wd.cell? ⟨r0, y * 3 + 2, none⟩ = some u3 := by rw [hWd]; exact m3
      have l1 : Wd.frozen? ⟨r0, y * 3, none⟩ = false := by rw [hWd]; exact f1
      have l2 : Wd.frozen? ⟨r0, y * 3 + 1, none⟩ = false := by rw [hWd]; exact f2
      have l3 : Wd.frozen? ⟨r0, y * 3 + 2, none⟩ = false := by rw [hWd]; exact f3
      rw [← hWd] at HE3 ⊢
      have HWD := Lib.hid hWd
      clear hWd ca fa m1 m2 m3 f1 f2 f3 cs ck hc cl
      go_wp2_with fail
      rw [show ((Wd.setCell ⟨r0, y * 3, none⟩ (.string ⟨#[226, 128, 166]⟩)).setCell ⟨r0, y * 3 + 1, none⟩ (.int .i64 1)).setCell ⟨r0, y * 3 + 2, none⟩ (.bool true) = _ from HE3.out, HWD.out, HY.out]
      have hA3 : A ++ (G ++ [dotsC]) = A2 ++ [dotsC] := by rw [HAA.out, List.append_assoc]
      obtain ⟨WF, hWF⟩ : ∃ WF, WF = W.drew.setRow r0 (flatC (splice (padP cols A2) A2.length [dotsC])).toArray := ⟨_, rfl⟩
      have FIN := FIN.out
      have FG := FG.out
      rw [← hWF] at FIN FG ⊢
      have hD9 := FIN.2.off _ _ HKD.out trivial
      have hD8 : (WF.setCell ⟨b11, 0, none⟩ (.int .i64 ((A2.length : Int) + 1))).heap[Dn]? = some (.deferred (some [])) := (heap_setCell_other _ _ _ _ (fun e => by
        rw [show Dn = b11 from e, show WF.heap[b11]? = _ from FG.a] at hD9; cases hD9)).trans hD9
      have S9 := (FIN.1.setCell (i := 0) FG.a ns_int (.int .i64 ((A2.length : Int) + 1))).keep (CellsKept.putObj (.deferred none) hD8 rfl)
      have K9 := (((HKK.out.trans (KpB.of FIN.2)).setCell (Nat.le_trans hBw q11) (.int .i64 ((A2.length : Int) + 1))).toS HE6.out q11 hBw).putObj (.deferred none) (show w.heap.size ≤ Dn from Nat.le_trans HE6.out.size hD) hBw
      refine ⟨by simp, .inl ⟨_, _, rfl, run_takeDeferred hD8, ?_⟩⟩
      refine ⟨_, results_tmp rfl _ _ _, ?_⟩
      rw [HZ0.out, HGH.out, hA3]
      exact ⟨by simp, S9, K9⟩
    case stop =>
      rintro Dn c pre' W hD hpre ⟨rfl, pre, x, rfl, hx, ⟨hfit, hS, hG, hK⟩⟩ hKd
      obtain ⟨r, hr⟩ := pre_cuts hpre
      have hgh : ghostP cols A.length g = dimC cols (cls pre) ++ [dotsC] := by
        unfold ghostP overP
        rw [if_pos (by simp only [decide_eq_true_eq]; rw [← HS.out, ← HZ0.out, ← HRM.out]; exact ho), ← HZ0.out, ← HRM.out, ← HRQ.out, hr]
        have e : cls (pre ++ [x]) ++ r = cls pre ++ x.1.2 :: r := by simp [cls]
        rw [e, ghF_stop hfit hx]
      have HGH := Lib.hid hgh
      obtain ⟨G, hGG⟩ : ∃ G, G = dimC cols (cls pre) := ⟨_, rfl⟩
      rw [← hGG] at hfit hS hG HGH
      obtain ⟨A2, hA2⟩ : ∃ A2, A2 = A ++ G := ⟨_, rfl⟩
      have hl2 : A2.length < cols := by
        rw [hA2, List.length_append, ← HZ0.out]
        have := HRQ.out; have := HRM.out; omega
      rw [← hA2] at hS hG
      have ca := hG.a.cell
      have cs := hG.s.cell
      have ck := hG.k.cell
      have fa := hG.a.frozen
      rw [← HN0.out] at ck
      obtain ⟨y, hy⟩ : ∃ y, y = A2.length := ⟨_, rfl⟩
      have HY := Lib.hid hy
      rw [← hy] at ca hl2
      obtain ⟨g0, o0, c0, r0, hv, er, hc⟩ := hS.last
      have cl := hS.cells.2.1
      rw [hv, ← HN0.out] at cl
      rw [← HN0.out] at hc
      have z5 : (N : Int) < (N : Int) + 1 := by omega
      have z6 : (y : Int) < (cols : Int) := by omega
      have hlast : (D ++ [padP cols A2])[D.length]? = some (padP cols A2) := by simp
      obtain ⟨hrw, hBr, hrl0⟩ := hS.rows _ _ _ er hlast
      obtain ⟨⟨u1, m1⟩, f1, ⟨u2, m2⟩, f2, ⟨u3, m3⟩, f3⟩ := cell3 hrw (i := y * 3) (by simp only [List.size_toArray]; rw [flatC_len, hrl0]; omega)
      have FIN := Lib.hid (hS.over (cs := [dotsC]) er (by simp only [List.length_singleton]; omega) (Y := W.drew) rfl ⟨rfl, rfl, rfl, Nat.le_refl _, fun _ _ => rfl⟩)
      have FG := Lib.hid (hG.move FIN.out.2.off)
      have e3 := set3 (w := W.drew) hrw (y * 3) (y * 3 + 1) (y * 3 + 2) (str dotsC.s) (.int .i64 dotsC.wd) (.bool dotsC.dim)
      rw [hy, set3_flat (by rw [hrl0, ← hy]; exact hl2), ← hy] at e3
      have HE3 := Lib.hid e3
      have hne : b11 ≠ r0 := ne_of_types hG.a hrw (by decide)
      have hne' : r0 ≠ b11 := fun e => hne e.symm
      have HKK := Lib.hid hK
      have HKD := Lib.hid hKd
      clear e3 hBr hrw hv hlast hw5b hsz S5 X4 X6 X7 X9 D5b lb
      have HAA := Lib.hid hA2
      have HE6 := Lib.hid E6
      clear hgh hr hpre hGG hA2 hK Y11 Y12 Y13 I0 E6 S6 E5 hb3 h hlt hx hy hG hS hKd
      refine wpIn_wide.2 ?_
      go_wp2_with fail
      go_still_tail 10, (by kernel_rfl)
      change wpList _ _ _ _ _ W.drew
      obtain ⟨Wd, hWd⟩ : ∃ Wd, Wd = W.drew := ⟨_, rfl⟩
      have d1 : Wd.cell? ⟨b11, 0, none⟩ = some (n64 y) := by rw [hWd]; exact ca
      have d2 : Wd.frozen? ⟨b11, 0, none⟩ = false := by rw [hWd]; exact fa
      have k1 : Wd.cell? ⟨r0, y * 3, none⟩ = some u1 := by rw [hWd]; exact m1
      have k2 : Wd.cell? ⟨r0, y * 3 + 1, none⟩ = some u2 := by rw [hWd]; exact m2
      have k3 : Wd.cell? ⟨r0, y * 3 + 2, none⟩ = some u3 := by rw [hWd]; exact m3
      have l1 : Wd.frozen? ⟨r0, y * 3, none⟩ = false := by rw [hWd]; exact f1
      have l2 : Wd.frozen? ⟨r0, y * 3 + 1, none⟩ = false := by rw [hWd]; exact f2
      have l3 : Wd.frozen? ⟨r0, y * 3 + 2, none⟩ = false := by rw [hWd]; exact f3
      rw [← hWd] at HE3 ⊢
      have HWD := Lib.hid hWd
      clear hWd ca fa m1 m2 m3 f1 f2 f3 cs ck hc cl
      go_wp2_with fail
      rw [show ((Wd.setCell ⟨r0, y * 3, none⟩ (.string ⟨#[226, 128, 166]⟩)).setCell ⟨r0, y * 3 + 1, none⟩ (.int .i64 1)).setCell ⟨r0, y * 3 + 2, none⟩ (.bool true) = _ from HE3.out, HWD.out, HY.out]
      have hA3 : A ++ (G ++ [dotsC]) = A2 ++ [dotsC] := by rw [HAA.out, List.append_assoc]
      obtain ⟨WF, hWF⟩ : ∃ WF, WF = W.drew.setRow r0 (flatC (splice (padP cols A2) A2.length [dotsC])).toArray := ⟨_, rfl⟩
      have FIN := FIN.out
      have FG := FG.out
      rw [← hWF] at FIN FG ⊢
      have hD9 := FIN.2.off _ _ HKD.out trivial
      have hD8 : (WF.setCell ⟨b11, 0, none⟩ (.int .i64 ((A2.length : Int) + 1))).heap[Dn]? = some (.deferred (some [])) := (heap_setCell_other _ _ _ _ (fun e => by
        rw [show Dn = b11 from e, show WF.heap[b11]? = _ from FG.a] at hD9; cases hD9)).trans hD9
      have S9 := (FIN.1.setCell (i := 0) FG.a ns_int (.int .i64 ((A2.length : Int) + 1))).keep (CellsKept.putObj (.deferred none) hD8 rfl)
      have K9 := (((HKK.out.trans (KpB.of FIN.2)).setCell (Nat.le_trans hBw q11) (.int .i64 ((A2.length : Int) + 1))).toS HE6.out q11 hBw).putObj (.deferred none) (show w.heap.size ≤ Dn from Nat.le_trans HE6.out.size hD) hBw
      refine ⟨by simp, .inl ⟨_, _, rfl, run_takeDeferred hD8, ?_⟩⟩
      refine ⟨_, results_tmp rfl _ _ _, ?_⟩
      rw [HZ0.out, HGH.out, hA3]
      exact ⟨by simp, S9, K9⟩
  · have ho' : decide ((rm : Int) < S) = false := by simpa using ho
    have x7 := X7.cell
    go_wp2_with (go_at_call 40; refine (Each_calls _ _).mono ?_; rintro e w' ⟨rfl, rfl⟩)
    obtain ⟨w6, hw6⟩ : ∃ w6, w6 = (((w5.alloc (.cells #[n64 z] 3)).alloc (.cells #[.func (.func 58) #[] #[bptr b4, bptr w5.heap.size, bptr b7, bptr b9, bptr b6]] 93)).alloc (.cells #[str g] 9)) := ⟨_, rfl⟩
    have Y11 : Boxed w6 w5.heap.size 3 (n64 z) := by rw [hw6]; exact ((Boxed.new w5 _ _).alloc _).alloc _
    have Y12 : Boxed w6 (w5.heap.size + 1) 93 (.func (.func 58) #[] #[bptr b4, bptr w5.heap.size, bptr b7, bptr b9, bptr b6]) := by
      have := Boxed.new (w5.alloc (.cells #[n64 z] 3)) 93 (.func (.func 58) #[] #[bptr b4, bptr w5.heap.size, bptr b7, bptr b9, bptr b6])
      rw [World.size_alloc] at this
      rw [hw6]; exact this.alloc _
    have Y13 : Boxed w6 (w5.heap.size + 1 + 1) 9 (str g) := by
      have := Boxed.new ((w5.alloc (.cells #[n64 z] 3)).alloc (.cells #[.func (.func 58) #[] #[bptr b4, bptr w5.heap.size, bptr b7, bptr b9, bptr b6]] 93)) 9 (str g)
      rw [World.size_alloc, World.size_alloc] at this
      rw [hw6]; exact this
    have D6 : Below w5.heap.size w5 w6 := by rw [hw6]; exact (((Below.refl _ w5).alloc (Nat.le_refl _) _).alloc (by simp) _).alloc (by simp; omega) _
    have s6 : w6.heap.size = w5.heap.size + 1 + 1 + 1 := by rw [hw6]; simp
    have Y4 : Boxed w6 b4 71 (sptr sb) := (D6.block _ X4.lt).trans X4
    have Y6 : Boxed w6 b6 3 (n64 N) := (D6.block _ X6.lt).trans X6
    have Y7 : Boxed w6 b7 3 (n64 z) := (D6.block _ X7.lt).trans X7
    have Y9 : Boxed w6 b9 3 (n64 rm) := (D6.block _ X9.lt).trans X9
    have S6 := S5.later D6
    have E6 : Below w.heap.size w w6 := E5.trans (D6.mono E5.size)
    have hBw : B ≤ w.heap.size := Nat.le_trans h.hB (Nat.le_of_lt hlt)
    have n7 : b7 ≠ w5.heap.size := Nat.ne_of_lt X7.lt
    have n9 : b9 ≠ w5.heap.size := Nat.ne_of_lt X9.lt
    have n6 : b6 ≠ w5.heap.size := Nat.ne_of_lt X6.lt
    have q5 := E5.size
    rw [← hw6]
    clear hw6 X4 X6 X7 X9 S5 D6 D5 x7 k5 k5f
    obtain ⟨b11, hb11⟩ : ∃ b, b = w5.heap.size := ⟨_, rfl⟩
    obtain ⟨b12, hb12⟩ : ∃ b, b = w5.heap.size + 1 := ⟨_, rfl⟩
    obtain ⟨b13, hb13⟩ : ∃ b, b = w5.heap.size + 1 + 1 := ⟨_, rfl⟩
    have n11 : b13 ≠ b11 := by omega
    have n12 : b12 ≠ b11 := by omega
    have q11 : w.heap.size ≤ b11 := by omega
    rw [← hb13] at Y13 ⊢
    rw [← hb12] at Y12 ⊢
    rw [← hb11] at Y11 Y12 n7 n9 n6 ⊢
    clear hb11 hb12 hb13 q5
    have gz : GhB w6 sb b4 b11 b7 b9 b6 A.length A.length rm D.length := by
      rw [← HZ0.out, ← HN0.out]
      exact ⟨Y4, Y11, Y7, Y9, Y6, n7, n9, n6⟩
    have I0 : GhI (L := g.length) w6 B sb cols D A col v rs b4 b11 b7 b9 b6 rm [] w6 := ⟨Nat.zero_le _, by simpa [dimC, cls] using S6, by simpa [dimC, cls] using gz, ⟨Below.refl _ _, fun _ _ e _ _ => e⟩⟩
    have hG6 : B ≤ w6.heap.size := Nat.le_trans hBw E6.size
    clear Y4 Y6 Y7 Y9 gz n7 n9 n6
    refine (wpIn_wide (n := 9)).1 ?_
    refine wpIn_rangeFunc_ownG rfl (by omega) (gf := 55) (lb := #[bptr b13]) rfl trivial (enters_of Tryd.func55 (by kernel_rfl) rfl)
      (each_stops (9 - 1) (by omega) g (by omega) b13 w6 _ rfl Y13) KpE.t (KpE.b Y13.lt) (Below.refl _ _) (fun _ => rfl)
      (fun (pre : List (Cl g.length)) W => GhI w6 B sb cols D A col v rs b4 b11 b7 b9 b6 rm pre W)
      (fun c pre W => GhX w6 B sb cols D A col v rs b4 b11 b7 b9 b6 rm c pre W)
      (ghI_own hG6 hG6 (Nat.le_refl _))
      (ghX_own hG6 hG6 (Nat.le_refl _))
      I0
      (fun x : Cl g.length => { tmps := #[sptr sb, str g, n64 N, n64 z, bptr b4, undef, bptr b6, bptr b7, .int .i64 0, bptr b9, .bool false, bptr b11, bptr b12, undef, str x.1.2, sptr sb, bptr sb, bptr sb, n64 cols, n64 z, n64 rm, str g, .int .i64 S, n64 rm, .bool false, .bool false, undef, undef, n64 z, .func (.func 58) #[] #[bptr b4, bptr b11, bptr b7, bptr b9, bptr b6], str g, .func (.func 55) #[] #[bptr b13], n64 x.1.1, str x.1.2, undef, undef, undef, undef, undef, undef, undef, undef, undef, undef, undef, undef, undef, undef, undef, undef, undef, undef], defers := [] }) ?assign ?body ?done ?stop
    case assign =>
      intro yl x W K hK
      unfold encs
      gi_wp2
      exact hK
    case body =>
      rintro yl pre x W ⟨hfit, hS, hG, hK⟩ hlt
      have Z12 : Boxed W b12 93 (.func (.func 58) #[] #[bptr b4, bptr b11, bptr b7, bptr b9, bptr b6]) := hK.off _ _ Y12 ⟨by decide, by decide, by decide⟩ n12
      have k12 := Z12.cell
      have Z13 : Boxed W b13 9 (str g) := hK.off _ _ Y13 ⟨by decide, by decide, by decide⟩ n11
      have hxl := x.2
      have GC := ghost1_calls hS h1 h2 hL hG (by rw [← HZ0.out, HRM.out]; omega) hfit (by omega) x.1.2 (by omega)
      have hcl : dimC cols (cls (pre ++ [x])) = dimC cols (cls pre) ++ cellsP cols x.1.2 true := by
        rw [← dimC_snoc]; simp [cls]
      have HCL := Lib.hid hcl
      have HI := Lib.hid (show GhI w6 B sb cols D A col v rs b4 b11 b7 b9 b6 rm pre W from ⟨hfit, hS, hG, hK⟩)
      by_cases hf : rm < (dimC cols (cls pre)).length + (cellsP cols x.1.2 true).length
      · have C1 : Calls Tryd.prog 58 #[str x.1.2, bptr b4, bptr b11, bptr b7, bptr b9, bptr b6] W fun e w' => e = .returned (.bool false) ∧ Below W.heap.size W w' :=
          GC.mono fun e w' he => by rcases he with ⟨_, a, b⟩ | ⟨n, _⟩; · exact ⟨a, b⟩
                                    · exact absurd hf n
        have HF := Lib.hid hf
        have HC := Lib.hid C1
        clear GC C1 hf hcl hS hG hK Z12 Y12 Y13 I0 E6 S6 E5 hb3 hfit hxl h hlt
        gi_wp2_with (refine ⟨trivial, ?_⟩; gi_at_call 58; refine (CallsIn.inRound yl (callsIn_wide.2 HC.out)).mono ?_; rintro e w7 ⟨rfl, bb7⟩)
        exact ⟨(keepsOthers_of_below bb7).from _, rfl, pre, x, rfl, HF.out, HI.out.later bb7 (Nat.le_trans hG6 HI.out.2.2.2.bel.size)⟩
      · have C1 : Calls Tryd.prog 58 #[str x.1.2, bptr b4, bptr b11, bptr b7, bptr b9, bptr b6] W fun e w' => e = .returned (.bool true) ∧ Sht w' B sb cols (D ++ [padP cols (A ++ (dimC cols (cls pre) ++ cellsP cols x.1.2 true))]) col v rs ∧
            GhB w' sb b4 b11 b7 b9 b6 (A ++ (dimC cols (cls pre) ++ cellsP cols x.1.2 true)).length A.length rm D.length ∧ KpB B b11 W w' :=
          GC.mono fun e w' he => by rcases he with ⟨n, _⟩ | ⟨_, a⟩; · exact absurd n hf
                                    · exact a
        rw [← hcl] at C1
        have HF := Lib.hid hf
        have HC := Lib.hid C1
        have HZ := Lib.hid Z13
        have HGA := Lib.hid hG.a
        clear GC C1 hf hcl hS hG hK Z12 Y12 Y13 I0 E6 S6 E5 hb3 hfit hxl h hlt Z13
        gi_wp2_with (refine ⟨trivial, ?_⟩; gi_at_call 58; refine (CallsIn.inRound yl (callsIn_wide.2 HC.out)).mono ?_; rintro e w7 ⟨rfl, hS7, hG7, hK7⟩)
        have ho7 := hK7.others HGA.out
        exact ⟨ho7.from _, ⟨keepsWalks_of ho7, (hK7.off b13 _ HZ.out ⟨by decide, by decide, by decide⟩ n11).trans (show W.heap[b13]? = _ from HZ.out).symm⟩,
          by have := HF.out; rw [HCL.out, List.length_append]; omega, hS7, hG7, HI.out.2.2.2.trans hK7⟩
    case done =>
      rintro Dn ys W hD hys ⟨hfit, hS, hG, hK⟩ hKd
      have hcl := cls_val hys
      have hgh : ghostP cols A.length g = dimC cols (cls ys) := by
        unfold ghostP overP
        rw [if_neg (by simp only [decide_eq_true_eq]; rw [← HS.out, ← HZ0.out, ← HRM.out]; omega), ← HZ0.out, ← HRM.out]
        rw [hcl] at hfit ⊢
        exact ghF_all hfit
      have HGH := Lib.hid hgh
      have hca := hG.a.cell
      have hKS := (hK.toS E6 q11 hBw).putObj (.deferred none) (show w.heap.size ≤ Dn from Nat.le_trans E6.size hD) hBw
      have hSk := hS.keep (CellsKept.putObj (.deferred none) hKd rfl)
      clear hgh hcl hys hS hG hK hfit Y11 Y12 Y13 I0 E6 S6 E5 hb3 h hlt
      go_wp2_with fail
      refine ⟨by simp, .inl ⟨_, _, rfl, run_takeDeferred hKd, ?_⟩⟩
      refine ⟨_, results_tmp rfl _ _ _, ?_⟩
      rw [HZ0.out, HGH.out]
      exact ⟨by rw [List.length_append]; rfl, hSk, hKS⟩
    case stop =>
      rintro Dn c pre' W hD hpre ⟨rfl, pre, x, rfl, hx, ⟨hfit, hS, hG, hK⟩⟩ hKd
      obtain ⟨r, hr⟩ := pre_cuts hpre
      have hgh : ghostP cols A.length g = dimC cols (cls pre) := by
        unfold ghostP overP
        rw [if_neg (by simp only [decide_eq_true_eq]; rw [← HS.out, ← HZ0.out, ← HRM.out]; omega), ← HZ0.out, ← HRM.out, hr]
        have e : cls (pre ++ [x]) ++ r = cls pre ++ x.1.2 :: r := by simp [cls]
        rw [e]
        exact ghF_stop hfit hx
      have HGH := Lib.hid hgh
      have hca := hG.a.cell
      have hKS := (hK.toS E6 q11 hBw).putObj (.deferred none) (show w.heap.size ≤ Dn from Nat.le_trans E6.size hD) hBw
      have hSk := hS.keep (CellsKept.putObj (.deferred none) hKd rfl)
      clear hgh hr hpre hS hG hK hfit Y11 Y12 Y13 I0 E6 S6 E5 hb3 h hlt hx
      refine wpIn_wide.2 ?_
      go_wp2_with fail
      refine ⟨by simp, .inl ⟨_, _, rfl, run_takeDeferred hKd, ?_⟩⟩
      refine ⟨_, results_tmp rfl _ _ _, ?_⟩
      rw [HZ0.out, HGH.out]
      exact ⟨by rw [List.length_append]; rfl, hSk, hKS⟩
end Go.Proofs.YtfgjhfmgacopoaaDoor
