import Derived.Test.YtpemjhghiccngaaDoorHs22
import Derived.BigFrameIn
namespace Go.Proofs.YtpemjhghiccngaaDoor
set_option linter.unusedVariables false
set_option linter.unusedSimpArgs false
open Go.RowKit Go.Shelf
attribute [local go_sem] Oper.semAt_some
theorem run_plainVar (ty : TypeId) {d : TypeDesc} (hd : Tryd.prog.underlying ty = some d) (hp : ∀ w, (isAgg ty).run Tryd.prog w = .ok false w) (w : World) (a : Addr) (v : Value) (hc : w.cell? a = some v) : (loadVar ty a).run Tryd.prog w = .ok v w := by
  unfold loadVar
  rw [Sem.run_bind, hp w]
  simp [go_sem, hc]
theorem isAgg_bool15 (w : World) : (isAgg 4).run Tryd.prog w = .ok false w := by
  unfold isAgg
  rw [Sem.run_bind, run_underlying Tryd.underlying4 w]
  rfl
theorem isAgg_str15 (w : World) : (isAgg 9).run Tryd.prog w = .ok false w := by
  unfold isAgg
  rw [Sem.run_bind, run_underlying Tryd.underlying9 w]
  rfl
theorem results_cell2 {fn : Func} {p q : Tmp} {t u : TypeId} (h : fn.results = #[.cell p t, .cell q u]) {tmps : Array Value} {P : Program} {w : World} {a b : Addr} {x y : Value} (ha : tmps.getD p undef = .pointer (some a)) (hb : tmps.getD q undef = .pointer (some b))
    (hx : (loadVar t a).run P w = .ok x w) (hy : (loadVar u b).run P w = .ok y w) : (results fn tmps).run P w = .ok (.tuple #[x, y]) w := by
  simp only [results, h]
  have ha' : tmps[p]?.getD undef = .pointer (some a) := by simpa using ha
  have hb' : tmps[q]?.getD undef = .pointer (some b) := by simpa using hb
  simp [ha', hb', asAddr, hx, hy]
/-- The first one of some that fits. -/
def fitL (p : Bs → Bool) (l : List Bs) : Bs × Bool := match l.find? p with | some x => (x, true) | none => ([], false)
theorem fitL_no {p : Bs → Bool} {l : List Bs} (h : ∀ x ∈ l, p x = false) : fitL p l = ([], false) := by
  unfold fitL
  rw [List.find?_eq_none.2 fun x hx => by simp [h x hx]]
theorem fitL_at {p : Bs → Bool} {l q r : List Bs} {x : Bs} (e : l = q ++ x :: r) (h : ∀ y ∈ q, p y = false) (hx : p x = true) : fitL p l = (x, true) := by
  unfold fitL
  rw [e, List.find?_append, List.find?_eq_none.2 fun y hy => by simp [h y hy]]
  simp [hx]
/-- A closure that tells p of texts no longer than L, in worlds of which Pre is true. -/
structure FitF (L K cb : Nat) (Pre : World → Prop) (p : Bs → Bool) : Prop where
  own : Own K
  tells : ∀ W x, x.length ≤ L → Pre W → Calls Tryd.prog K #[str x, .pointer (some ⟨cb, 0, none⟩)] W fun e w' => e = .returned (.bool (p x)) ∧ Below W.heap.size W w'
  keep : ∀ W W', Below W.heap.size W W' → Pre W → Pre W'
def FitI {L : Nat} (p : Bs → Bool) (w0 : World) (pre : List (CB L)) (W : World) : Prop := Below w0.heap.size w0 W ∧ ∀ x ∈ pre, p x.1.2 = false
def FitX {L : Nat} (p : Bs → Bool) (w : World) (c : Code) (pre : List (CB L)) (W : World) : Prop :=
  c = .ret ∧ Below w.heap.size w W ∧ ∃ q x, pre = q ++ [x] ∧ (∀ y ∈ q, p y.1.2 = false) ∧ p x.1.2 = true ∧ Boxed W (w.heap.size + 1) 9 (str x.1.2) ∧ Boxed W (w.heap.size + 1 + 1) 4 (.bool true)
theorem FitI.own {L : Nat} {p : Bs → Bool} {w0 : World} {B : Nat} (hB : w0.heap.size ≤ B) : OwnFrom B (fun (pre : List (CB L)) W => FitI p w0 pre W) :=
  fun s W W' row ⟨h1, h2⟩ hg hr => ⟨ownFrom_below (β := Unit) (Nat.le_refl _) hB () W W' row h1 hg hr, h2⟩
theorem FitX.own {L : Nat} {p : Bs → Bool} {w : World} {B : Nat} (hB : w.heap.size ≤ B) (c : Code) : OwnFrom B (fun (pre : List (CB L)) W => FitX p w c pre W) := by
  rintro s W W' row ⟨h1, h2, q, x, rfl, h3, h4, h5, h6⟩ hg hr
  exact ⟨h1, ownFrom_below (β := Unit) (Nat.le_refl _) hB () W W' row h2 hg hr, q, x, rfl, h3, h4, boxed_own _ _ (fun _ : Unit => str x.1.2) () W W' row h5 hg (fun r e => (hr r e).2), boxed_own _ _ (fun _ : Unit => .bool true) () W W' row h6 hg (fun r e => (hr r e).2)⟩
set_option maxHeartbeats 3200000 in
set_option maxRecDepth 100000 in
theorem fitting_calls (L : Nat) (K cb : Nat) (Pre : World → Prop) (p : Bs → Bool) (hF : FitF L K cb Pre p) (w : World) (hP : Pre w) (gf Bx : Nat) (eg : ∀ args w, (callFunc gf args).run Tryd.prog w = .ok (.enter gf args) w) (S : List IB) (A : Option Addr)
    (hBx : Bx < w.heap.size) (hA : ∀ a, A = some a → a.block < w.heap.size)
    (hst : ∀ w0, Below w.heap.size w w0 → SeqStopsK Fence.wide 2 Tryd.prog gf #[.pointer (some ⟨Bx, 0, none⟩)] encC (KpB Bx A) (fun xs : List (CB L) => xs.map (·.1) = S) (fun pre => pre.map (·.1) <+: S) S.length w0) :
    Calls Tryd.prog 49 #[fnV gf Bx, fnV K cb] w fun e w' => e = .returned (.tuple #[str (fitL p (S.map (·.2))).1, .bool (fitL p (S.map (·.2))).2]) ∧ Below w.heap.size w w' := by
  have hcf := hF.own
  unfold Own at hcf
  have HF := Lib.hid hF
  have HP := Lib.hid hP
  have HST := Lib.hid hst
  have HA := Lib.hid hA
  clear hF hP hst hA
  refine (callsIn_wide (n := 3)).1 ?_
  refine callsIn_of_wp_marks Tryd.func49 rfl trivial ?_ rfl
  simp only [Tryd.ntmps49, List.size_toArray, List.length_cons, List.length_nil, Nat.reduceAdd, Nat.reduceSub, Array.replicate_succ, Array.replicate_zero, List.push_toArray, List.append_toArray, List.nil_append, List.cons_append]
  have hnil : ∀ (W : World), (binOp .eql 61 (fnV K cb) .nilFunc).run Tryd.prog W = .ok (.bool false) W := fun W => by kernel_rfl
  gi_wp2
  obtain ⟨w0, hw0⟩ : ∃ W0, (((w.alloc (.cells #[fnV K cb] 61)).alloc (.cells #[.string { data := #[] }] 9)).alloc (.cells #[.bool false] 4)) = W0 := ⟨_, rfl⟩
  have hsz0 : w0.heap.size = w.heap.size + 1 + 1 + 1 := by rw [← hw0]; simp
  have b3 : Boxed w0 w.heap.size 61 (fnV K cb) := by rw [← hw0]; exact ((Boxed.new w _ _).alloc _).alloc _
  have b4 : Boxed w0 (w.heap.size + 1) 9 (.string { data := #[] }) := by
    rw [← hw0]
    have := (Boxed.new (w.alloc (.cells #[fnV K cb] 61)) 9 (.string { data := #[] })).alloc (.cells #[.bool false] 4)
    rwa [World.size_alloc] at this
  have b5 : Boxed w0 (w.heap.size + 1 + 1) 4 (.bool false) := by
    rw [← hw0]
    have := Boxed.new ((w.alloc (.cells #[fnV K cb] 61)).alloc (.cells #[.string { data := #[] }] 9)) 4 (.bool false)
    rwa [World.size_alloc, World.size_alloc] at this
  have hB0 : Below w.heap.size w w0 := by rw [← hw0]; exact (((Below.refl _ w).alloc (Nat.le_refl _) _).alloc (by simp) _).alloc (by simp; omega) _
  rw [hw0]
  clear hw0
  have B3 := Lib.hid b3
  have B4 := Lib.hid b4
  have B5 := Lib.hid b5
  have HB0 := Lib.hid hB0
  clear b3 b4 b5 hB0
  refine wpIn_rangeFunc_ownG rfl (by omega) (gf := gf) (lb := #[.pointer (some ⟨Bx, 0, none⟩)]) rfl trivial eg
    (HST.out w0 HB0.out) KpB.t (KpB.b (by omega) (fun a ha => by have := HA.out a ha; omega)) (Below.refl _ _) (fun _ => rfl)
    (fun (pre : List (CB L)) W => FitI p w0 pre W)
    (fun c pre W => FitX p w c pre W)
    (FitI.own (Nat.le_refl _))
    (FitX.own (by omega))
    ⟨Below.refl _ _, by simp⟩
    (fun x : CB L => { tmps := #[fnV gf Bx, fnV K cb, undef, .pointer (some ⟨w.heap.size, 0, none⟩), .pointer (some ⟨w.heap.size + 1, 0, none⟩), .pointer (some ⟨w.heap.size + 1 + 1, 0, none⟩), undef, str x.1.2, fnV gf Bx, n64 x.1.1, str x.1.2, undef, undef, undef, undef, undef, undef, undef, undef], defers := [] }) ?assign ?body ?done ?stop
  case assign =>
    intro yl x W K1 hK
    unfold encC encB
    gi_wp2
    exact hK
  case body =>
    rintro yl pre x W hI hlt
    have hBW := hI.1
    have h3 : Boxed W w.heap.size 61 (fnV K cb) := (hBW.block _ (by omega)).trans B3.out
    have h4 : Boxed W (w.heap.size + 1) 9 (.string { data := #[] }) := (hBW.block _ (by omega)).trans B4.out
    have h5 : Boxed W (w.heap.size + 1 + 1) 4 (.bool false) := (hBW.block _ (by omega)).trans B5.out
    have c3 := h3.cell
    have hBw := HB0.out.trans (hBW.mono HB0.out.size)
    have hq := HF.out.tells W x.1.2 x.2 (HF.out.keep _ _ hBw HP.out)
    have HQ := Lib.hid hq
    have HI := Lib.hid hI
    have HBW := Lib.hid hBW
    have HBw := Lib.hid hBw
    have H4 := Lib.hid h4
    have H5 := Lib.hid h5
    have hsW : w.heap.size + 1 + 1 + 1 ≤ W.heap.size := by have := hBW.size; omega
    obtain ⟨xs, hxs⟩ : ∃ s : ByteArray, s = ⟨x.1.2.toArray⟩ := ⟨_, rfl⟩
    have hxv : str x.1.2 = .string xs := lit_of hxs
    have HXV := Lib.hid hxv
    rw [hxv] at HQ ⊢
    obtain ⟨b, hb⟩ : ∃ b, b = p x.1.2 := ⟨_, rfl⟩
    rw [← hb] at HQ
    clear hq hI hBW hBw h3 h4 h5 hxs hxv
    cases b with
    | true =>
      have HB := Lib.hid hb
      clear hb
      gi_wp2_with (refine ⟨trivial, ?_⟩; (with_reducible refine (CallsIn.inRound yl (callsIn_wide.2 HQ.out)).mono ?_); rintro e W1 ⟨rfl, hb1⟩; have h41 : Boxed W1 (w.heap.size + 1) 9 (.string { data := #[] }) := (hb1.block _ (by omega)).trans H4.out; have h51 : Boxed W1 (w.heap.size + 1 + 1) 4 (.bool false) := (hb1.block _ (by omega)).trans H5.out; have f4 := h41.frozen; have f5 := h51.frozen; have l4 := h41.cell; have l5 := h51.cell)
      have k1 := KeepsOthers.setCell W1 ⟨w.heap.size + 1, 0, none⟩ (.string xs)
      have hk1 : KeepsFrom w0.heap.size W W1 := ⟨hb1.size, fun k o _ hk _ => (hb1.block k (lt_of_heap hk)).trans hk⟩
      refine ⟨hk1.trans ((k1.from _).trans ((KeepsOthers.setCell _ _ _).from _)), rfl, ?_, pre, x, rfl, HI.out.2, HB.out.symm, ?_, ?_⟩
      · exact ((HBw.out.trans (hb1.mono HBw.out.size)).setCell (p := ⟨w.heap.size + 1, 0, none⟩) (by simp) _).setCell (p := ⟨w.heap.size + 1 + 1, 0, none⟩) (by simp; omega) _
      · rw [HXV.out]; exact (h41.set _).other (by omega) _
      · exact (h51.other (by omega) _).set _
    | false =>
      have HB := Lib.hid hb
      clear hb
      gi_wp2_with (refine ⟨trivial, ?_⟩; (with_reducible refine (CallsIn.inRound yl (callsIn_wide.2 HQ.out)).mono ?_); rintro e W1 ⟨rfl, hb1⟩)
      refine ⟨⟨hb1.size, fun k o _ hk _ => (hb1.block k (lt_of_heap hk)).trans hk⟩, ⟨hb1.block _ (by omega), fun a ha => hb1.block _ (by have := HA.out a ha; omega)⟩, HI.out.1.trans (hb1.mono HI.out.1.size), ?_⟩
      intro y hy
      rcases List.mem_append.1 hy with h | h
      · exact HI.out.2 y h
      · rw [List.mem_singleton.1 h]; exact HB.out.symm
  case done =>
    rintro D ys W hD hys hI hK
    have h4 : Boxed W (w.heap.size + 1) 9 (.string { data := #[] }) := (hI.1.block _ (by omega)).trans B4.out
    have h5 : Boxed W (w.heap.size + 1 + 1) 4 (.bool false) := (hI.1.block _ (by omega)).trans B5.out
    have f4 := h4.frozen
    have f5 := h5.frozen
    have l4 := h4.cell
    have l5 := h5.cell
    have HI := Lib.hid hI
    have H4 := Lib.hid h4
    have H5 := Lib.hid h5
    clear hI h4 h5
    gi_wp2
    obtain ⟨W3, hW3⟩ : ∃ W3, W3 = (W.setCell ⟨w.heap.size + 1, 0, none⟩ (.string { data := #[] })).setCell ⟨w.heap.size + 1 + 1, 0, none⟩ (.bool false) := ⟨_, rfl⟩
    have g4 : Boxed W3 (w.heap.size + 1) 9 (.string { data := #[] }) := by rw [hW3]; exact (H4.out.set _).other (by omega) _
    have g5 : Boxed W3 (w.heap.size + 1 + 1) 4 (.bool false) := by rw [hW3]; exact (H5.out.other (by omega) _).set _
    have hK3 : W3.heap[D]? = some (.deferred (some [])) := by rw [hW3]; exact (Below.heap_setCell _ _ _ _ (by dsimp only; omega)).trans ((Below.heap_setCell _ _ _ _ (by dsimp only; omega)).trans hK)
    have hB3 : Below w.heap.size w W3 := by
      rw [hW3]
      exact ((HB0.out.trans (HI.out.1.mono HB0.out.size)).setCell (p := ⟨w.heap.size + 1, 0, none⟩) (by simp) _).setCell (p := ⟨w.heap.size + 1 + 1, 0, none⟩) (by simp; omega) _
    rw [← hW3]
    have hr4 := run_plainVar 9 Tryd.underlying9 isAgg_str15 (W3.putObj D (.deferred none)) ⟨w.heap.size + 1, 0, none⟩ _ ((g4.kept (grownBy_putObj' W3 D (.deferred none)) (by simp; omega)).cell)
    have hr5 := run_plainVar 4 Tryd.underlying4 isAgg_bool15 (W3.putObj D (.deferred none)) ⟨w.heap.size + 1 + 1, 0, none⟩ _ ((g5.kept (grownBy_putObj' W3 D (.deferred none)) (by simp; omega)).cell)
    have hfit : fitL p (S.map (·.2)) = ([], false) := fitL_no (by
      intro y hy
      rw [← hys, List.map_map] at hy
      obtain ⟨z, hz, rfl⟩ := List.mem_map.1 hy
      exact HI.out.2 z hz)
    rw [hfit]
    refine ⟨by simp, .inl ⟨_, _, rfl, run_takeDeferred hK3, ?_⟩⟩
    exact ⟨_, results_cell2 rfl rfl rfl hr4 hr5, rfl, hB3.trans (belowK_b (w := w) (Nat.le_refl _) W3 D _ _ (by omega) hK3 rfl rfl)⟩
  case stop =>
    rintro D c pre W hD hpre hX hK
    obtain ⟨rfl, hBw, q, x, rfl, h1, h2, h4, h5⟩ := hX
    have HX := Lib.hid hBw
    have H4 := Lib.hid h4
    have H5 := Lib.hid h5
    clear hBw h4 h5
    gi_wp2
    have hr4 := run_plainVar 9 Tryd.underlying9 isAgg_str15 (W.putObj D (.deferred none)) ⟨w.heap.size + 1, 0, none⟩ _ ((H4.out.kept (grownBy_putObj' W D (.deferred none)) (by simp; omega)).cell)
    have hr5 := run_plainVar 4 Tryd.underlying4 isAgg_bool15 (W.putObj D (.deferred none)) ⟨w.heap.size + 1 + 1, 0, none⟩ _ ((H5.out.kept (grownBy_putObj' W D (.deferred none)) (by simp; omega)).cell)
    obtain ⟨t, ht⟩ := hpre
    have hfit : fitL p (S.map (·.2)) = (x.1.2, true) := fitL_at (q := q.map (·.1.2)) (r := t.map (·.2)) (by rw [← ht]; simp) (by intro y hy; obtain ⟨z, hz, rfl⟩ := List.mem_map.1 hy; exact h1 z hz) h2
    rw [hfit]
    refine ⟨by simp, .inl ⟨_, _, rfl, run_takeDeferred hK, ?_⟩⟩
    exact ⟨_, results_cell2 rfl rfl rfl hr4 hr5, rfl, HX.out.trans (belowK_b (w := w) (Nat.le_refl _) W D _ _ (by omega) hK rfl rfl)⟩
set_option maxHeartbeats 3200000 in
set_option maxRecDepth 100000 in
theorem fittingN_calls (L : Nat) (w : World) (gf Bx : Nat) (eg : ∀ args w, (callFunc gf args).run Tryd.prog w = .ok (.enter gf args) w) (S : List IB) (A : Option Addr)
    (hBx : Bx < w.heap.size) (hA : ∀ a, A = some a → a.block < w.heap.size)
    (hst : ∀ w0, Below w.heap.size w w0 → SeqStopsK Fence.wide 2 Tryd.prog gf #[.pointer (some ⟨Bx, 0, none⟩)] encC (KpB Bx A) (fun xs : List (CB L) => xs.map (·.1) = S) (fun pre => pre.map (·.1) <+: S) S.length w0) :
    Calls Tryd.prog 49 #[fnV gf Bx, .nilFunc] w fun e w' => e = .returned (.tuple #[str (fitL (fun _ => true) (S.map (·.2))).1, .bool (fitL (fun _ => true) (S.map (·.2))).2]) ∧ Below w.heap.size w w' := by
  obtain ⟨p, hp⟩ : ∃ p : Bs → Bool, p = fun _ => true := ⟨_, rfl⟩
  rw [← hp]
  have HPP := Lib.hid hp
  have HST := Lib.hid hst
  have HA := Lib.hid hA
  clear hst hA hp
  refine (callsIn_wide (n := 3)).1 ?_
  refine callsIn_of_wp_marks Tryd.func49 rfl trivial ?_ rfl
  simp only [Tryd.ntmps49, List.size_toArray, List.length_cons, List.length_nil, Nat.reduceAdd, Nat.reduceSub, Array.replicate_succ, Array.replicate_zero, List.push_toArray, List.append_toArray, List.nil_append, List.cons_append]
  have hnil : ∀ (W : World), (binOp .eql 61 (.nilFunc) .nilFunc).run Tryd.prog W = .ok (.bool true) W := fun W => by kernel_rfl
  gi_wp2
  obtain ⟨w0, hw0⟩ : ∃ W0, (((w.alloc (.cells #[.nilFunc] 61)).alloc (.cells #[.string { data := #[] }] 9)).alloc (.cells #[.bool false] 4)) = W0 := ⟨_, rfl⟩
  have hsz0 : w0.heap.size = w.heap.size + 1 + 1 + 1 := by rw [← hw0]; simp
  have b3 : Boxed w0 w.heap.size 61 (.nilFunc) := by rw [← hw0]; exact ((Boxed.new w _ _).alloc _).alloc _
  have b4 : Boxed w0 (w.heap.size + 1) 9 (.string { data := #[] }) := by
    rw [← hw0]
    have := (Boxed.new (w.alloc (.cells #[.nilFunc] 61)) 9 (.string { data := #[] })).alloc (.cells #[.bool false] 4)
    rwa [World.size_alloc] at this
  have b5 : Boxed w0 (w.heap.size + 1 + 1) 4 (.bool false) := by
    rw [← hw0]
    have := Boxed.new ((w.alloc (.cells #[.nilFunc] 61)).alloc (.cells #[.string { data := #[] }] 9)) 4 (.bool false)
    rwa [World.size_alloc, World.size_alloc] at this
  have hB0 : Below w.heap.size w w0 := by rw [← hw0]; exact (((Below.refl _ w).alloc (Nat.le_refl _) _).alloc (by simp) _).alloc (by simp; omega) _
  rw [hw0]
  clear hw0
  have B3 := Lib.hid b3
  have B4 := Lib.hid b4
  have B5 := Lib.hid b5
  have HB0 := Lib.hid hB0
  clear b3 b4 b5 hB0
  refine wpIn_rangeFunc_ownG rfl (by omega) (gf := gf) (lb := #[.pointer (some ⟨Bx, 0, none⟩)]) rfl trivial eg
    (HST.out w0 HB0.out) KpB.t (KpB.b (by omega) (fun a ha => by have := HA.out a ha; omega)) (Below.refl _ _) (fun _ => rfl)
    (fun (pre : List (CB L)) W => FitI p w0 pre W)
    (fun c pre W => FitX p w c pre W)
    (FitI.own (Nat.le_refl _))
    (FitX.own (by omega))
    ⟨Below.refl _ _, by simp⟩
    (fun x : CB L => { tmps := #[fnV gf Bx, .nilFunc, undef, .pointer (some ⟨w.heap.size, 0, none⟩), .pointer (some ⟨w.heap.size + 1, 0, none⟩), .pointer (some ⟨w.heap.size + 1 + 1, 0, none⟩), undef, str x.1.2, fnV gf Bx, n64 x.1.1, str x.1.2, undef, undef, undef, undef, undef, undef, undef, undef], defers := [] }) ?assign ?body ?done ?stop
  case assign =>
    intro yl x W K1 hK
    unfold encC encB
    gi_wp2
    exact hK
  case body =>
    rintro yl pre x W hI hlt
    have hBW := hI.1
    have h3 : Boxed W w.heap.size 61 (.nilFunc) := (hBW.block _ (by omega)).trans B3.out
    have h4 : Boxed W (w.heap.size + 1) 9 (.string { data := #[] }) := (hBW.block _ (by omega)).trans B4.out
    have h5 : Boxed W (w.heap.size + 1 + 1) 4 (.bool false) := (hBW.block _ (by omega)).trans B5.out
    have c3 := h3.cell
    have hBw := HB0.out.trans (hBW.mono HB0.out.size)
    have HI := Lib.hid hI
    have HBW := Lib.hid hBW
    have HBw := Lib.hid hBw
    have H4 := Lib.hid h4
    have H5 := Lib.hid h5
    have hsW : w.heap.size + 1 + 1 + 1 ≤ W.heap.size := by have := hBW.size; omega
    obtain ⟨xs, hxs⟩ : ∃ s : ByteArray, s = ⟨x.1.2.toArray⟩ := ⟨_, rfl⟩
    have hxv : str x.1.2 = .string xs := lit_of hxs
    have HXV := Lib.hid hxv
    rw [hxv]
    have f4 := h4.frozen
    have f5 := h5.frozen
    have l4 := h4.cell
    have l5 := h5.cell
    clear hI hBW hBw h3 h4 h5 hxs hxv
    gi_wp2
    refine ⟨fun _ h => (by cases h), ?_⟩
    gi_wp2
    refine ⟨((KeepsOthers.setCell _ _ _).from _).trans ((KeepsOthers.setCell _ _ _).from _), rfl, ?_, pre, x, rfl, HI.out.2, by rw [HPP.out], ?_, ?_⟩
    · exact ((HBw.out).setCell (p := ⟨w.heap.size + 1, 0, none⟩) (by simp) _).setCell (p := ⟨w.heap.size + 1 + 1, 0, none⟩) (by simp; omega) _
    · rw [HXV.out]; exact (H4.out.set _).other (by omega) _
    · exact (H5.out.other (by omega) _).set _
  case done =>
    rintro D ys W hD hys hI hK
    have h4 : Boxed W (w.heap.size + 1) 9 (.string { data := #[] }) := (hI.1.block _ (by omega)).trans B4.out
    have h5 : Boxed W (w.heap.size + 1 + 1) 4 (.bool false) := (hI.1.block _ (by omega)).trans B5.out
    have f4 := h4.frozen
    have f5 := h5.frozen
    have l4 := h4.cell
    have l5 := h5.cell
    have HI := Lib.hid hI
    have H4 := Lib.hid h4
    have H5 := Lib.hid h5
    clear hI h4 h5
    gi_wp2
    obtain ⟨W3, hW3⟩ : ∃ W3, W3 = (W.setCell ⟨w.heap.size + 1, 0, none⟩ (.string { data := #[] })).setCell ⟨w.heap.size + 1 + 1, 0, none⟩ (.bool false) := ⟨_, rfl⟩
    have g4 : Boxed W3 (w.heap.size + 1) 9 (.string { data := #[] }) := by rw [hW3]; exact (H4.out.set _).other (by omega) _
    have g5 : Boxed W3 (w.heap.size + 1 + 1) 4 (.bool false) := by rw [hW3]; exact (H5.out.other (by omega) _).set _
    have hK3 : W3.heap[D]? = some (.deferred (some [])) := by rw [hW3]; exact (Below.heap_setCell _ _ _ _ (by dsimp only; omega)).trans ((Below.heap_setCell _ _ _ _ (by dsimp only; omega)).trans hK)
    have hB3 : Below w.heap.size w W3 := by
      rw [hW3]
      exact ((HB0.out.trans (HI.out.1.mono HB0.out.size)).setCell (p := ⟨w.heap.size + 1, 0, none⟩) (by simp) _).setCell (p := ⟨w.heap.size + 1 + 1, 0, none⟩) (by simp; omega) _
    rw [← hW3]
    have hr4 := run_plainVar 9 Tryd.underlying9 isAgg_str15 (W3.putObj D (.deferred none)) ⟨w.heap.size + 1, 0, none⟩ _ ((g4.kept (grownBy_putObj' W3 D (.deferred none)) (by simp; omega)).cell)
    have hr5 := run_plainVar 4 Tryd.underlying4 isAgg_bool15 (W3.putObj D (.deferred none)) ⟨w.heap.size + 1 + 1, 0, none⟩ _ ((g5.kept (grownBy_putObj' W3 D (.deferred none)) (by simp; omega)).cell)
    have hfit : fitL p (S.map (·.2)) = ([], false) := fitL_no (by
      intro y hy
      rw [← hys, List.map_map] at hy
      obtain ⟨z, hz, rfl⟩ := List.mem_map.1 hy
      exact HI.out.2 z hz)
    rw [hfit]
    refine ⟨by simp, .inl ⟨_, _, rfl, run_takeDeferred hK3, ?_⟩⟩
    exact ⟨_, results_cell2 rfl rfl rfl hr4 hr5, rfl, hB3.trans (belowK_b (w := w) (Nat.le_refl _) W3 D _ _ (by omega) hK3 rfl rfl)⟩
  case stop =>
    rintro D c pre W hD hpre hX hK
    obtain ⟨rfl, hBw, q, x, rfl, h1, h2, h4, h5⟩ := hX
    have HX := Lib.hid hBw
    have H4 := Lib.hid h4
    have H5 := Lib.hid h5
    clear hBw h4 h5
    gi_wp2
    have hr4 := run_plainVar 9 Tryd.underlying9 isAgg_str15 (W.putObj D (.deferred none)) ⟨w.heap.size + 1, 0, none⟩ _ ((H4.out.kept (grownBy_putObj' W D (.deferred none)) (by simp; omega)).cell)
    have hr5 := run_plainVar 4 Tryd.underlying4 isAgg_bool15 (W.putObj D (.deferred none)) ⟨w.heap.size + 1 + 1, 0, none⟩ _ ((H5.out.kept (grownBy_putObj' W D (.deferred none)) (by simp; omega)).cell)
    obtain ⟨t, ht⟩ := hpre
    have hfit : fitL p (S.map (·.2)) = (x.1.2, true) := fitL_at (q := q.map (·.1.2)) (r := t.map (·.2)) (by rw [← ht]; simp) (by intro y hy; obtain ⟨z, hz, rfl⟩ := List.mem_map.1 hy; exact h1 z hz) h2
    rw [hfit]
    refine ⟨by simp, .inl ⟨_, _, rfl, run_takeDeferred hK, ?_⟩⟩
    exact ⟨_, results_cell2 rfl rfl rfl hr4 hr5, rfl, HX.out.trans (belowK_b (w := w) (Nat.le_refl _) W D _ _ (by omega) hK rfl rfl)⟩
end Go.Proofs.YtpemjhghiccngaaDoor
