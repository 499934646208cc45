import Derived.Test.YtfgjhfmgacopoaaDoorLqf
import Derived.Test.YtfgjhfmgacopoaaDoorRr
namespace Go.Proofs.YtfgjhfmgacopoaaDoor
set_option linter.unusedVariables false
set_option linter.unusedSimpArgs false
open Go.RowKit Go.Shelf
/-! Chapter 18: LayoutSame's two frames: a region that draws its order, with two calls, and two boxes. -/
abbrev o3a : Oper := { dst := some 17, op := Op.load 23 (Operand.tmp 2), type := 23, pos := "law.go:177", after := #[], guard := none }
abbrev o3b : Oper := {dst := some 18, op := Op.call { callee := Callee.value (Operand.func 11), args := #[Operand.tmp 17], argTypes := #[30] }, type := 28, pos := "law.go:177", after := #[{ on := 0, ground := Ground.data }], guard := none }
abbrev o3c : Oper := {dst := some 19, op := Op.load 23 (Operand.tmp 3), type := 23, pos := "law.go:177", after := #[], guard := none }
abbrev o3d : Oper := {dst := some 20, op := Op.call { callee := Callee.value (Operand.func 11), args := #[Operand.tmp 19], argTypes := #[30] }, type := 28, pos := "law.go:177", after := #[{ on := 2, ground := Ground.data }, { on := 1, ground := Ground.chain }], guard := none }
abbrev o3e : Oper := {dst := some 5, op := Op.alloc 28, type := 0, pos := "law.go:177", after := #[], guard := none }
abbrev o3f : Oper := {dst := some 6, op := Op.alloc 28, type := 0, pos := "law.go:177", after := #[], guard := none }
abbrev o3g : Oper := {dst := none, op := Op.store 28 (Operand.tmp 5) (Operand.tmp 18), type := 0, pos := "law.go:177", after := #[{ on := 4, ground := Ground.data }, { on := 1, ground := Ground.data }, { on := 3, ground := Ground.chain }, { on := 0, ground := Ground.phase }, { on := 1, ground := Ground.phase }, { on := 2, ground := Ground.textOnly Departure.lateStores }, { on := 3, ground := Ground.textOnly Departure.lateStoresUnsure }, { on := 4, ground := Ground.phase }, { on := 5, ground := Ground.phase }], guard := none }
abbrev o3h : Oper := {dst := none, op := Op.store 28 (Operand.tmp 6) (Operand.tmp 20), type := 0, pos := "law.go:177", after := #[{ on := 5, ground := Ground.data }, { on := 3, ground := Ground.data }, { on := 6, ground := Ground.chain }, { on := 0, ground := Ground.phase }, { on := 1, ground := Ground.phase }, { on := 2, ground := Ground.phase }, { on := 3, ground := Ground.phase }, { on := 4, ground := Ground.phase }, { on := 5, ground := Ground.phase }, { on := 6, ground := Ground.phase }], guard := none }
def ops3 : Array Oper := #[o3a, o3b, o3c, o3d, o3e, o3f, o3g, o3h]
def frZ : Array Value := #[.slice none 0 0, .int .i64 0, .int .i64 0]
theorem load_rview {w : World} {b : Nat} {v : ViewT} (h : RvAt w b v) : (loadVar 23 ⟨b, 0, none⟩).run Tryd.prog w = .ok v.val w :=
  run_loadVar_row w b _ _ _ (0, 0) _ h Tryd.underlying23 rfl (by kernel_rfl)
/-- What a frame that was told is. -/
def IsFr (w : World) (x : Value) (L : List RowT) (row col : Nat) : Prop := ∃ A cp vals, x = .agg #[.slice A L.length cp, .int .i64 (row : Int), .int .i64 (col : Int)] ∧ FrG w 0 L (.slice A L.length cp) vals
def vcs : Value → Array Value | .agg cs => cs | _ => #[]
structure R3 (W : World) (a0 : Act) (v u : ViewT) (L M : List RowT) (r1 c1 r2 c2 : Nat) (listed : Array Bool) (a : Act) (w : World) : Prop where
  sz : a.tmps.size = 83
  df : a.defers = a0.defers
  same : ∀ j : Nat, j ≠ 5 → j ≠ 6 → j ≠ 17 → j ≠ 18 → j ≠ 19 → j ≠ 20 → a.tmps[j]? = a0.tmps[j]?
  bel : Below W.heap.size W w
  l0 : listed.getD 0 true = true → a.tmps[17]?.getD undef = v.val
  l2 : listed.getD 2 true = true → a.tmps[19]?.getD undef = u.val
  l1 : listed.getD 1 true = true → IsFr w (a.tmps[18]?.getD undef) L r1 c1
  l3 : listed.getD 3 true = true → IsFr w (a.tmps[20]?.getD undef) M r2 c2
  l4 : listed.getD 4 true = true → ∃ ba, a.tmps[5]?.getD undef = .pointer (some ⟨ba, 0, none⟩) ∧ W.heap.size ≤ ba ∧ w.heap[ba]? = some (.cells (if listed.getD 6 true = true then vcs (a.tmps[18]?.getD undef) else frZ) 28 (0, 0))
  l5 : listed.getD 5 true = true → ∃ bb, a.tmps[6]?.getD undef = .pointer (some ⟨bb, 0, none⟩) ∧ W.heap.size ≤ bb ∧ w.heap[bb]? = some (.cells (if listed.getD 7 true = true then vcs (a.tmps[20]?.getD undef) else frZ) 28 (0, 0))
  l45 : listed.getD 4 true = true → listed.getD 5 true = true → a.tmps[5]?.getD undef ≠ a.tmps[6]?.getD undef
theorem R3.gt {a : Act} {d x : Nat} {v : Value} (hd : d < a.tmps.size) (h : x ≠ d) : (a.put (some d) v).tmps[x]? = a.tmps[x]? := by
  simp [Act.put, Array.getElem?_setIfInBounds, Ne.symm h]
theorem IsFr.later {w w' : World} {x : Value} {L : List RowT} {r c : Nat} (h : IsFr w x L r c) (hb : Below w.heap.size w w') : IsFr w' x L r c := by
  obtain ⟨A, cp, vals, e, F⟩ := h
  exact ⟨A, cp, vals, e, F.later hb⟩
set_option maxHeartbeats 4000000 in
set_option maxRecDepth 100000 in
theorem region3 (v u : ViewT) (W : World) (b1 b2 : Nat) (hv : RvAt W b1 v) (hu : RvAt W b2 u) (L M : List RowT) (r1 c1 r2 c2 : Nat)
    (OA : ∀ W', Below W.heap.size W W' → Calls Tryd.prog 11 #[v.val] W' fun e w' => ∃ x, e = .returned x ∧ IsFr w' x L r1 c1 ∧ Below W'.heap.size W' w')
    (OB : ∀ W', Below W.heap.size W W' → Calls Tryd.prog 11 #[u.val] W' fun e w' => ∃ x, e = .returned x ∧ IsFr w' x M r2 c2 ∧ Below W'.heap.size W' w')
    (a0 : Act) (h83 : a0.tmps.size = 83) (h2 : a0.tmps[2]?.getD undef = .pointer (some ⟨b1, 0, none⟩)) (h3 : a0.tmps[3]?.getD undef = .pointer (some ⟨b2, 0, none⟩)) (Q : Exit → Act → World → Prop)
    (hQ : ∀ a w', R3 W a0 v u L M r1 c1 r2 c2 (Array.replicate 8 true) a w' → Q .normal a w') :
    (Code.region 3 ops3 true).wp Tryd.prog Q a0 W := by
  have hfo : Tryd.prog.follows Departure.mixedOrders = true := by kernel_rfl
  refine (wpIn_wide (n := 0)).1 (region_inv hfo (R3 W a0 v u L M r1 c1 r2 c2) ?_ ?_ ?_)
  · have hz : ∀ j, j < 8 → (Array.replicate ops3.size false).getD j true = true → False := fun j hj h => by
      have : (Array.replicate ops3.size false).getD j true = false := by
        have : j < 8 := hj
        simp [ops3, this]
      rw [this] at h; cases h
    exact ⟨h83, rfl, fun _ _ _ _ _ _ _ => rfl, (Below.refl _ _).drew, fun h => (hz 0 (by omega) h).elim, fun h => (hz 2 (by omega) h).elim, fun h => (hz 1 (by omega) h).elim, fun h => (hz 3 (by omega) h).elim, fun h => (hz 4 (by omega) h).elim, fun h => (hz 5 (by omega) h).elim, fun h => (hz 4 (by omega) h).elim⟩
  · intro listed a w i hclo hR hi
    obtain ⟨hun, o, ho, hdep⟩ := mem_ready.1 hi
    have hi8 : i < 8 := (Array.getElem?_eq_some_iff.1 ho).1
    have e2 : a.tmps[2]?.getD undef = .pointer (some ⟨b1, 0, none⟩) := by rw [hR.same 2 (by omega) (by omega) (by omega) (by omega) (by omega) (by omega)]; exact h2
    have e3 : a.tmps[3]?.getD undef = .pointer (some ⟨b2, 0, none⟩) := by rw [hR.same 3 (by omega) (by omega) (by omega) (by omega) (by omega) (by omega)]; exact h3
    have V1 : RvAt w b1 v := (hR.bel.block _ (lt_of_heap hv)).trans hv
    have V2 : RvAt w b2 u := (hR.bel.block _ (lt_of_heap hu)).trans hu
    obtain ⟨k0, k1, k2, k3, k4, k5, k6⟩ := V1.cells
    obtain ⟨m0, m1, m2, m3, m4, m5, m6⟩ := V2.cells
    have hs := hR.sz
    have gs : ∀ j, j ≠ i → (listed.setIfInBounds i true).getD j true = listed.getD j true := fun j hj => by rw [getD_set hun, if_neg hj]
    have gi : (listed.setIfInBounds i true).getD i true = true := by rw [getD_set hun, if_pos rfl]
    obtain rfl | rfl | rfl | rfl | rfl | rfl | rfl | rfl : i = 0 ∨ i = 1 ∨ i = 2 ∨ i = 3 ∨ i = 4 ∨ i = 5 ∨ i = 6 ∨ i = 7 := by omega
    · refine step_val (o := o3a) (v := v.val) (w' := w) rfl rfl (by intro c h; cases h) rfl ?_ ?_
      · simp [go_sem, e2, e3, k0, k1, k2, k3, k4, k5, k6, ViewT.val]
      · have pt : ∀ (x : Value) (j : Nat), (a.put (some 17) x).tmps[j]?.getD undef = if j = 17 then x else a.tmps[j]?.getD undef := fun x j => tmp_put (by omega)
        have ps : ∀ (x : Value) (j : Nat), j ≠ 17 → (a.put (some 17) x).tmps[j]? = a.tmps[j]? := fun x j hj => R3.gt (by omega) hj
        have p18 := (pt v.val 18).trans (if_neg (by omega))
        have p20 := (pt v.val 20).trans (if_neg (by omega))
        refine ⟨by simp [Act.put, hs], hR.df, fun j q5 q6 q17 q18 q19 q20 => by rw [ps _ j (by omega)]; exact hR.same j q5 q6 q17 q18 q19 q20, hR.bel, fun _ => by rw [pt, if_pos rfl], fun h => by rw [gs 2 (by omega)] at h; rw [pt, if_neg (by omega)]; exact hR.l2 h, fun h => by rw [gs 1 (by omega)] at h; rw [pt, if_neg (by omega)]; exact hR.l1 h, fun h => by rw [gs 3 (by omega)] at h; rw [pt, if_neg (by omega)]; exact hR.l3 h, fun h => by rw [gs 4 (by omega)] at h; obtain ⟨ba, x1, x2, x3⟩ := hR.l4 h; exact ⟨ba, by rw [pt, if_neg (by omega)]; exact x1, x2, by rw [gs 6 (by omega), p18]; exact x3⟩, fun h => by rw [gs 5 (by omega)] at h; obtain ⟨ba, x1, x2, x3⟩ := hR.l5 h; exact ⟨ba, by rw [pt, if_neg (by omega)]; exact x1, x2, by rw [gs 7 (by omega), p20]; exact x3⟩, fun h h' => by rw [gs 4 (by omega)] at h; rw [gs 5 (by omega)] at h'; rw [pt, pt, if_neg (by omega), if_neg (by omega)]; exact hR.l45 h h'⟩
    · have ho2 : o = o3b := (Option.some.inj ho).symm
      subst ho2
      have d0 := hR.l0 (getD_tf (hdep ⟨0, .data⟩ (by simp) rfl))
      have n6 : listed.getD 6 true = false := by
        cases hL : listed.getD 6 true with
        | false => rfl
        | true => have := hclo.2 6 o3g rfl hL ⟨1, .data⟩ (by simp) rfl; rw [hun] at this; cases this
      have n7 : listed.getD 7 true = false := by
        cases hL : listed.getD 7 true with
        | false => rfl
        | true => have := hclo.2 7 o3h rfl hL ⟨6, .chain⟩ (by simp) rfl; rw [n6] at this; cases this
      refine step_calls (o := o3b) (f := 11) (args := #[v.val]) (w' := w) rfl rfl (by intro c h; cases h) (fun _ => trivial) ?_ (fun h => by cases h) ?_
      · simp [go_sem, d0]
      · refine (callsIn_wide.2 (OA w hR.bel)).mono ?_
        rintro e w7 ⟨x, rfl, hx, b7⟩
        refine ⟨_, rfl, ?_⟩
        have hbl : ∀ b, b < w.heap.size → w7.heap[b]? = w.heap[b]? := fun b h => b7.block b h
        have pt : ∀ (x : Value) (j : Nat), (a.put (some 18) x).tmps[j]?.getD undef = if j = 18 then x else a.tmps[j]?.getD undef := fun x j => tmp_put (by omega)
        have ps : ∀ (x : Value) (j : Nat), j ≠ 18 → (a.put (some 18) x).tmps[j]? = a.tmps[j]? := fun x j hj => R3.gt (by omega) hj
        refine ⟨by simp [Act.put, hs], hR.df, fun j q5 q6 q17 q18 q19 q20 => by rw [ps _ j (by omega)]; exact hR.same j q5 q6 q17 q18 q19 q20, hR.bel.trans (b7.mono hR.bel.size), fun h => by rw [gs 0 (by omega)] at h; rw [pt, if_neg (by omega)]; exact hR.l0 h, fun h => by rw [gs 2 (by omega)] at h; rw [pt, if_neg (by omega)]; exact hR.l2 h, fun _ => by rw [pt, if_pos rfl]; exact hx, fun h => by rw [gs 3 (by omega)] at h; rw [pt, if_neg (by omega)]; exact (hR.l3 h).later b7, fun h => by rw [gs 4 (by omega)] at h; obtain ⟨ba, x1, x2, x3⟩ := hR.l4 h; rw [n6, if_neg (by simp)] at x3; exact ⟨ba, by rw [pt, if_neg (by omega)]; exact x1, x2, by rw [gs 6 (by omega), n6, if_neg (by simp), hbl _ (lt_of_heap x3)]; exact x3⟩, fun h => by rw [gs 5 (by omega)] at h; obtain ⟨ba, x1, x2, x3⟩ := hR.l5 h; rw [n7, if_neg (by simp)] at x3; exact ⟨ba, by rw [pt, if_neg (by omega)]; exact x1, x2, by rw [gs 7 (by omega), n7, if_neg (by simp), hbl _ (lt_of_heap x3)]; exact x3⟩, fun h h' => by rw [gs 4 (by omega)] at h; rw [gs 5 (by omega)] at h'; rw [pt, pt, if_neg (by omega), if_neg (by omega)]; exact hR.l45 h h'⟩
    · refine step_val (o := o3c) (v := u.val) (w' := w) rfl rfl (by intro c h; cases h) rfl ?_ ?_
      · simp [go_sem, e2, e3, m0, m1, m2, m3, m4, m5, m6, ViewT.val]
      · have pt : ∀ (x : Value) (j : Nat), (a.put (some 19) x).tmps[j]?.getD undef = if j = 19 then x else a.tmps[j]?.getD undef := fun x j => tmp_put (by omega)
        have ps : ∀ (x : Value) (j : Nat), j ≠ 19 → (a.put (some 19) x).tmps[j]? = a.tmps[j]? := fun x j hj => R3.gt (by omega) hj
        have p18 := (pt u.val 18).trans (if_neg (by omega))
        have p20 := (pt u.val 20).trans (if_neg (by omega))
        refine ⟨by simp [Act.put, hs], hR.df, fun j q5 q6 q17 q18 q19 q20 => by rw [ps _ j (by omega)]; exact hR.same j q5 q6 q17 q18 q19 q20, hR.bel, fun h => by rw [gs 0 (by omega)] at h; rw [pt, if_neg (by omega)]; exact hR.l0 h, fun _ => by rw [pt, if_pos rfl], fun h => by rw [gs 1 (by omega)] at h; rw [pt, if_neg (by omega)]; exact hR.l1 h, fun h => by rw [gs 3 (by omega)] at h; rw [pt, if_neg (by omega)]; exact hR.l3 h, fun h => by rw [gs 4 (by omega)] at h; obtain ⟨ba, x1, x2, x3⟩ := hR.l4 h; exact ⟨ba, by rw [pt, if_neg (by omega)]; exact x1, x2, by rw [gs 6 (by omega), p18]; exact x3⟩, fun h => by rw [gs 5 (by omega)] at h; obtain ⟨ba, x1, x2, x3⟩ := hR.l5 h; exact ⟨ba, by rw [pt, if_neg (by omega)]; exact x1, x2, by rw [gs 7 (by omega), p20]; exact x3⟩, fun h h' => by rw [gs 4 (by omega)] at h; rw [gs 5 (by omega)] at h'; rw [pt, pt, if_neg (by omega), if_neg (by omega)]; exact hR.l45 h h'⟩
    · have ho2 : o = o3d := (Option.some.inj ho).symm
      subst ho2
      have d0 := hR.l2 (getD_tf (hdep ⟨2, .data⟩ (by simp) rfl))
      have n6 : listed.getD 6 true = false := by
        cases hL : listed.getD 6 true with
        | false => rfl
        | true => have := hclo.2 6 o3g rfl hL ⟨3, .chain⟩ (by simp) rfl; rw [hun] at this; cases this
      have n7 : listed.getD 7 true = false := by
        cases hL : listed.getD 7 true with
        | false => rfl
        | true => have := hclo.2 7 o3h rfl hL ⟨6, .chain⟩ (by simp) rfl; rw [n6] at this; cases this
      refine step_calls (o := o3d) (f := 11) (args := #[u.val]) (w' := w) rfl rfl (by intro c h; cases h) (fun _ => trivial) ?_ (fun h => by cases h) ?_
      · simp [go_sem, d0]
      · refine (callsIn_wide.2 (OB w hR.bel)).mono ?_
        rintro e w7 ⟨x, rfl, hx, b7⟩
        refine ⟨_, rfl, ?_⟩
        have hbl : ∀ b, b < w.heap.size → w7.heap[b]? = w.heap[b]? := fun b h => b7.block b h
        have pt : ∀ (x : Value) (j : Nat), (a.put (some 20) x).tmps[j]?.getD undef = if j = 20 then x else a.tmps[j]?.getD undef := fun x j => tmp_put (by omega)
        have ps : ∀ (x : Value) (j : Nat), j ≠ 20 → (a.put (some 20) x).tmps[j]? = a.tmps[j]? := fun x j hj => R3.gt (by omega) hj
        refine ⟨by simp [Act.put, hs], hR.df, fun j q5 q6 q17 q18 q19 q20 => by rw [ps _ j (by omega)]; exact hR.same j q5 q6 q17 q18 q19 q20, hR.bel.trans (b7.mono hR.bel.size), fun h => by rw [gs 0 (by omega)] at h; rw [pt, if_neg (by omega)]; exact hR.l0 h, fun h => by rw [gs 2 (by omega)] at h; rw [pt, if_neg (by omega)]; exact hR.l2 h, fun h => by rw [gs 1 (by omega)] at h; rw [pt, if_neg (by omega)]; exact (hR.l1 h).later b7, fun _ => by rw [pt, if_pos rfl]; exact hx, fun h => by rw [gs 4 (by omega)] at h; obtain ⟨ba, x1, x2, x3⟩ := hR.l4 h; rw [n6, if_neg (by simp)] at x3; exact ⟨ba, by rw [pt, if_neg (by omega)]; exact x1, x2, by rw [gs 6 (by omega), n6, if_neg (by simp), hbl _ (lt_of_heap x3)]; exact x3⟩, fun h => by rw [gs 5 (by omega)] at h; obtain ⟨ba, x1, x2, x3⟩ := hR.l5 h; rw [n7, if_neg (by simp)] at x3; exact ⟨ba, by rw [pt, if_neg (by omega)]; exact x1, x2, by rw [gs 7 (by omega), n7, if_neg (by simp), hbl _ (lt_of_heap x3)]; exact x3⟩, fun h h' => by rw [gs 4 (by omega)] at h; rw [gs 5 (by omega)] at h'; rw [pt, pt, if_neg (by omega), if_neg (by omega)]; exact hR.l45 h h'⟩
    · have n6 : listed.getD 6 true = false := by
        cases hL : listed.getD 6 true with
        | false => rfl
        | true => have := hclo.2 6 o3g rfl hL ⟨4, .data⟩ (by simp) rfl; rw [hun] at this; cases this
      have n7 : listed.getD 7 true = false := by
        cases hL : listed.getD 7 true with
        | false => rfl
        | true => have := hclo.2 7 o3h rfl hL ⟨6, .chain⟩ (by simp) rfl; rw [n6] at this; cases this
      refine step_val (o := o3e) (v := .pointer (some ⟨w.heap.size, 0, none⟩)) (w' := w.alloc (.cells frZ 28)) rfl rfl (by intro c h; cases h) rfl ?_ ?_
      · simp [go_sem, frZ]
      · have b7 : Below w.heap.size w (w.alloc (.cells frZ 28)) := (Below.refl _ _).alloc (Nat.le_refl _) _
        have hbl : ∀ b, b < w.heap.size → (w.alloc (.cells frZ 28)).heap[b]? = w.heap[b]? := fun b h => b7.block b h
        have hnew := heap_alloc_new w (.cells frZ 28)
        have pt : ∀ (x : Value) (j : Nat), (a.put (some 5) x).tmps[j]?.getD undef = if j = 5 then x else a.tmps[j]?.getD undef := fun x j => tmp_put (by omega)
        have ps : ∀ (x : Value) (j : Nat), j ≠ 5 → (a.put (some 5) x).tmps[j]? = a.tmps[j]? := fun x j hj => R3.gt (by omega) hj
        refine ⟨by simp [Act.put, hs], hR.df, fun j q5 q6 q17 q18 q19 q20 => by rw [ps _ j (by omega)]; exact hR.same j q5 q6 q17 q18 q19 q20, hR.bel.trans (b7.mono hR.bel.size), fun h => by rw [gs 0 (by omega)] at h; rw [pt, if_neg (by omega)]; exact hR.l0 h, fun h => by rw [gs 2 (by omega)] at h; rw [pt, if_neg (by omega)]; exact hR.l2 h, fun h => by rw [gs 1 (by omega)] at h; rw [pt, if_neg (by omega)]; exact (hR.l1 h).later b7, fun h => by rw [gs 3 (by omega)] at h; rw [pt, if_neg (by omega)]; exact (hR.l3 h).later b7, fun _ => ⟨w.heap.size, by rw [pt, if_pos rfl], hR.bel.size, by rw [gs 6 (by omega), n6, if_neg (by simp)]; exact hnew⟩, fun h => by rw [gs 5 (by omega)] at h; obtain ⟨ba, x1, x2, x3⟩ := hR.l5 h; rw [n7, if_neg (by simp)] at x3; exact ⟨ba, by rw [pt, if_neg (by omega)]; exact x1, x2, by rw [gs 7 (by omega), n7, if_neg (by simp), hbl _ (lt_of_heap x3)]; exact x3⟩, fun _ h' => by rw [gs 5 (by omega)] at h'; obtain ⟨bb, x1, x2, x3⟩ := hR.l5 h'; have := lt_of_heap x3; rw [pt, pt, if_pos rfl, if_neg (by omega), x1]; intro e; injection e with e; injection e with e; injection e with e; omega⟩
    · have n6 : listed.getD 6 true = false := by
        cases hL : listed.getD 6 true with
        | false => rfl
        | true => have := hclo.2 6 o3g rfl hL ⟨5, .phase⟩ (by simp) rfl; rw [hun] at this; cases this
      have n7 : listed.getD 7 true = false := by
        cases hL : listed.getD 7 true with
        | false => rfl
        | true => have := hclo.2 7 o3h rfl hL ⟨6, .chain⟩ (by simp) rfl; rw [n6] at this; cases this
      refine step_val (o := o3f) (v := .pointer (some ⟨w.heap.size, 0, none⟩)) (w' := w.alloc (.cells frZ 28)) rfl rfl (by intro c h; cases h) rfl ?_ ?_
      · simp [go_sem, frZ]
      · have b7 : Below w.heap.size w (w.alloc (.cells frZ 28)) := (Below.refl _ _).alloc (Nat.le_refl _) _
        have hbl : ∀ b, b < w.heap.size → (w.alloc (.cells frZ 28)).heap[b]? = w.heap[b]? := fun b h => b7.block b h
        have hnew := heap_alloc_new w (.cells frZ 28)
        have pt : ∀ (x : Value) (j : Nat), (a.put (some 6) x).tmps[j]?.getD undef = if j = 6 then x else a.tmps[j]?.getD undef := fun x j => tmp_put (by omega)
        have ps : ∀ (x : Value) (j : Nat), j ≠ 6 → (a.put (some 6) x).tmps[j]? = a.tmps[j]? := fun x j hj => R3.gt (by omega) hj
        refine ⟨by simp [Act.put, hs], hR.df, fun j q5 q6 q17 q18 q19 q20 => by rw [ps _ j (by omega)]; exact hR.same j q5 q6 q17 q18 q19 q20, hR.bel.trans (b7.mono hR.bel.size), fun h => by rw [gs 0 (by omega)] at h; rw [pt, if_neg (by omega)]; exact hR.l0 h, fun h => by rw [gs 2 (by omega)] at h; rw [pt, if_neg (by omega)]; exact hR.l2 h, fun h => by rw [gs 1 (by omega)] at h; rw [pt, if_neg (by omega)]; exact (hR.l1 h).later b7, fun h => by rw [gs 3 (by omega)] at h; rw [pt, if_neg (by omega)]; exact (hR.l3 h).later b7, fun h => by rw [gs 4 (by omega)] at h; obtain ⟨ba, x1, x2, x3⟩ := hR.l4 h; rw [n6, if_neg (by simp)] at x3; exact ⟨ba, by rw [pt, if_neg (by omega)]; exact x1, x2, by rw [gs 6 (by omega), n6, if_neg (by simp), hbl _ (lt_of_heap x3)]; exact x3⟩, fun _ => ⟨w.heap.size, by rw [pt, if_pos rfl], hR.bel.size, by rw [gs 7 (by omega), n7, if_neg (by simp)]; exact hnew⟩, fun h _ => by rw [gs 4 (by omega)] at h; obtain ⟨bb, x1, x2, x3⟩ := hR.l4 h; have := lt_of_heap x3; rw [pt, pt, if_neg (by omega), if_pos rfl, x1]; intro e; injection e with e; injection e with e; injection e with e; omega⟩
    · have ho2 : o = o3g := (Option.some.inj ho).symm
      subst ho2
      have q4 := getD_tf (hdep ⟨4, .data⟩ (by simp) rfl)
      have q1 := getD_tf (hdep ⟨1, .data⟩ (by simp) rfl)
      obtain ⟨A, cp, va, ea, Fa⟩ := hR.l1 q1
      obtain ⟨ba, eb, hba, hcb⟩ := hR.l4 q4
      rw [if_neg (by rw [hun]; simp)] at hcb
      obtain ⟨k0, k1, k2, f0, f1, f2⟩ := box_cells hcb
      obtain ⟨W9, hW9⟩ : ∃ W9, W9 = ((w.setCell ⟨ba, 0, none⟩ (.slice A L.length cp)).setCell ⟨ba, 1, none⟩ (.int .i64 (r1 : Int))).setCell ⟨ba, 2, none⟩ (.int .i64 (c1 : Int)) := ⟨_, rfl⟩
      refine step_skip_ (o := o3g) (w' := W9) rfl rfl (by intro c h; cases h) rfl ?_ ?_
      · simp [go_sem, ea, eb, k0, k1, k2, f0, f1, f2, hW9]
      · have g0 := heap_setCell_same _ ba 0 _ _ (.slice A L.length cp) hcb
        have g1 := heap_setCell_same _ ba 1 _ _ (.int .i64 (r1 : Int)) g0
        have g2 := heap_setCell_same _ ba 2 _ _ (.int .i64 (c1 : Int)) g1
        rw [← hW9] at g2
        have hbl : ∀ b, b ≠ ba → W9.heap[b]? = w.heap[b]? := fun b h => by rw [hW9]; exact ((heap_setCell_other _ _ _ _ h).trans (heap_setCell_other _ _ _ _ h)).trans (heap_setCell_other _ _ _ _ h)
        have bw : Below W.heap.size W W9 := by rw [hW9]; exact ((hR.bel.setCell (p := ⟨ba, 0, none⟩) hba _).setCell (p := ⟨ba, 1, none⟩) hba _).setCell (p := ⟨ba, 2, none⟩) hba _
        have fk : ∀ x K y z, IsFr w x K y z → IsFr W9 x K y z := fun x K y z hx => by
          obtain ⟨A', cp', va', e', F'⟩ := hx
          refine ⟨A', cp', va', e', ⟨F'.out.at_ fun k hk => hbl k (fun e => F'.out.ne_box hcb (by decide) (by rw [← e]; exact hk)), F'.len, fun k u' l' e1 e2' => ?_⟩⟩
          have hr := F'.row k u' l' e1 e2'
          exact hr.at_ fun j hj => hbl j (fun e => hr.ne_box hcb (by decide) (by rw [← e]; exact hj))
        have pt : ∀ (x : Value) (j : Nat), (a.put none x).tmps[j]? = a.tmps[j]? := fun x j => rfl
        refine ⟨hs, hR.df, fun j q5 q6 q17 q18 q19 q20 => hR.same j q5 q6 q17 q18 q19 q20, bw, fun h => by rw [gs 0 (by omega)] at h; exact hR.l0 h, fun h => by rw [gs 2 (by omega)] at h; exact hR.l2 h, fun h => by rw [gs 1 (by omega)] at h; exact fk _ _ _ _ (hR.l1 h), fun h => by rw [gs 3 (by omega)] at h; exact fk _ _ _ _ (hR.l3 h), fun h => ⟨ba, by rw [pt]; exact eb, hba, by rw [gi, if_pos rfl, pt, ea]; exact g2⟩, fun h => by rw [gs 5 (by omega)] at h; obtain ⟨bb, x1, x2, x3⟩ := hR.l5 h; refine ⟨bb, by rw [pt]; exact x1, x2, ?_⟩; rw [gs 7 (by omega), pt, hbl bb (fun e => hR.l45 q4 h (by rw [eb, x1, e]))]; exact x3, fun h h' => by rw [gs 4 (by omega)] at h; rw [gs 5 (by omega)] at h'; exact hR.l45 h h'⟩
    · have ho2 : o = o3h := (Option.some.inj ho).symm
      subst ho2
      have q4 := getD_tf (hdep ⟨5, .data⟩ (by simp) rfl)
      have q1 := getD_tf (hdep ⟨3, .data⟩ (by simp) rfl)
      obtain ⟨A, cp, va, ea, Fa⟩ := hR.l3 q1
      obtain ⟨ba, eb, hba, hcb⟩ := hR.l5 q4
      rw [if_neg (by rw [hun]; simp)] at hcb
      obtain ⟨k0, k1, k2, f0, f1, f2⟩ := box_cells hcb
      obtain ⟨W9, hW9⟩ : ∃ W9, W9 = ((w.setCell ⟨ba, 0, none⟩ (.slice A M.length cp)).setCell ⟨ba, 1, none⟩ (.int .i64 (r2 : Int))).setCell ⟨ba, 2, none⟩ (.int .i64 (c2 : Int)) := ⟨_, rfl⟩
      refine step_skip_ (o := o3h) (w' := W9) rfl rfl (by intro c h; cases h) rfl ?_ ?_
      · simp [go_sem, ea, eb, k0, k1, k2, f0, f1, f2, hW9]
      · have g0 := heap_setCell_same _ ba 0 _ _ (.slice A M.length cp) hcb
        have g1 := heap_setCell_same _ ba 1 _ _ (.int .i64 (r2 : Int)) g0
        have g2 := heap_setCell_same _ ba 2 _ _ (.int .i64 (c2 : Int)) g1
        rw [← hW9] at g2
        have hbl : ∀ b, b ≠ ba → W9.heap[b]? = w.heap[b]? := fun b h => by rw [hW9]; exact ((heap_setCell_other _ _ _ _ h).trans (heap_setCell_other _ _ _ _ h)).trans (heap_setCell_other _ _ _ _ h)
        have bw : Below W.heap.size W W9 := by rw [hW9]; exact ((hR.bel.setCell (p := ⟨ba, 0, none⟩) hba _).setCell (p := ⟨ba, 1, none⟩) hba _).setCell (p := ⟨ba, 2, none⟩) hba _
        have fk : ∀ x K y z, IsFr w x K y z → IsFr W9 x K y z := fun x K y z hx => by
          obtain ⟨A', cp', va', e', F'⟩ := hx
          refine ⟨A', cp', va', e', ⟨F'.out.at_ fun k hk => hbl k (fun e => F'.out.ne_box hcb (by decide) (by rw [← e]; exact hk)), F'.len, fun k u' l' e1 e2' => ?_⟩⟩
          have hr := F'.row k u' l' e1 e2'
          exact hr.at_ fun j hj => hbl j (fun e => hr.ne_box hcb (by decide) (by rw [← e]; exact hj))
        have pt : ∀ (x : Value) (j : Nat), (a.put none x).tmps[j]? = a.tmps[j]? := fun x j => rfl
        refine ⟨hs, hR.df, fun j q5 q6 q17 q18 q19 q20 => hR.same j q5 q6 q17 q18 q19 q20, bw, fun h => by rw [gs 0 (by omega)] at h; exact hR.l0 h, fun h => by rw [gs 2 (by omega)] at h; exact hR.l2 h, fun h => by rw [gs 1 (by omega)] at h; exact fk _ _ _ _ (hR.l1 h), fun h => by rw [gs 3 (by omega)] at h; exact fk _ _ _ _ (hR.l3 h), fun h => by rw [gs 4 (by omega)] at h; obtain ⟨bb, x1, x2, x3⟩ := hR.l4 h; refine ⟨bb, by rw [pt]; exact x1, x2, ?_⟩; rw [gs 6 (by omega), pt, hbl bb (fun e => hR.l45 h q4 (by rw [eb, x1, e]))]; exact x3, fun h => ⟨ba, by rw [pt]; exact eb, hba, by rw [gi, if_pos rfl, pt, ea]; exact g2⟩, fun h h' => by rw [gs 4 (by omega)] at h; rw [gs 5 (by omega)] at h'; exact hR.l45 h h'⟩
  · intro listed a w hclo hR hr
    have hall := ready_nil (md := .any) (ops := ops3) (by kernel_rfl) hclo.1 hr
    have hl : listed = Array.replicate 8 true := by
      have hs : listed.size = 8 := hclo.1
      apply Array.ext
      · simp [hs]
      · intro i h1 h2
        have := hall i (by rw [← hclo.1]; exact h1)
        simpa [h1] using this
    rw [hl] at hR
    exact hQ a w hR
theorem put_size {a : Act} {d : Nat} {x : Value} : (a.put (some d) x).tmps.size = a.tmps.size := by simp [Act.put]
theorem put_get {a : Act} {d : Nat} {x : Value} (hd : d < a.tmps.size) (i : Nat) : (a.put (some d) x).tmps[i]? = if i = d then some x else a.tmps[i]? := by
  by_cases h : i = d
  · subst h; simp [Act.put, hd]
  · rw [if_neg h]; exact R3.gt hd h
theorem put_defers {a : Act} {d : Nat} {x : Value} : (a.put (some d) x).defers = a.defers := rfl
theorem act_ext {a b : Act} (h : ∀ i : Nat, a.tmps[i]? = b.tmps[i]?) (hd : a.defers = b.defers) : a = b := by
  obtain ⟨t, d⟩ := a
  obtain ⟨t', d'⟩ := b
  dsimp only at hd
  subst hd
  congr 1
  exact Array.ext_getElem? h
/-- What has come up, as the walk goes on with it. -/
theorem R3.frame {W : World} {a0 : Act} {v u : ViewT} {L M : List RowT} {r1 c1 r2 c2 : Nat} {listed : Array Bool} {a : Act} {w : World} (h : R3 W a0 v u L M r1 c1 r2 c2 listed a w) (h83 : a0.tmps.size = 83) :
    a = (((((a0.put (some 17) (a.tmps[17]?.getD undef)).put (some 18) (a.tmps[18]?.getD undef)).put (some 19) (a.tmps[19]?.getD undef)).put (some 20) (a.tmps[20]?.getD undef)).put (some 5) (a.tmps[5]?.getD undef)).put (some 6) (a.tmps[6]?.getD undef) := by
  have hg : ∀ j, j < 83 → a.tmps[j]? = some (a.tmps[j]?.getD undef) := fun j hj => by
    have : j < a.tmps.size := by rw [h.sz]; exact hj
    simp [this]
  refine act_ext (fun i => ?_) (by rw [put_defers, put_defers, put_defers, put_defers, put_defers, put_defers]; exact h.df)
  have hd := h.same i
  have hg17 := hg 17 (by omega)
  have hg18 := hg 18 (by omega)
  have hg19 := hg 19 (by omega)
  have hg20 := hg 20 (by omega)
  have hg5 := hg 5 (by omega)
  have hg6 := hg 6 (by omega)
  clear h hg
  generalize a.tmps[17]?.getD undef = x17 at hg17 ⊢
  generalize a.tmps[18]?.getD undef = x18 at hg18 ⊢
  generalize a.tmps[19]?.getD undef = x19 at hg19 ⊢
  generalize a.tmps[20]?.getD undef = x20 at hg20 ⊢
  generalize a.tmps[5]?.getD undef = x5 at hg5 ⊢
  generalize a.tmps[6]?.getD undef = x6 at hg6 ⊢
  have g1 := put_get (a := a0) (d := 17) (x := x17) (by omega) i
  have z1 : (a0.put (some 17) x17).tmps.size = 83 := put_size.trans h83
  generalize a0.put (some 17) x17 = a1 at g1 z1 ⊢
  have g2 := put_get (a := a1) (d := 18) (x := x18) (by omega) i
  have z2 : (a1.put (some 18) x18).tmps.size = 83 := put_size.trans z1
  generalize a1.put (some 18) x18 = a2 at g2 z2 ⊢
  have g3 := put_get (a := a2) (d := 19) (x := x19) (by omega) i
  have z3 : (a2.put (some 19) x19).tmps.size = 83 := put_size.trans z2
  generalize a2.put (some 19) x19 = a3 at g3 z3 ⊢
  have g4 := put_get (a := a3) (d := 20) (x := x20) (by omega) i
  have z4 : (a3.put (some 20) x20).tmps.size = 83 := put_size.trans z3
  generalize a3.put (some 20) x20 = a4 at g4 z4 ⊢
  have g5 := put_get (a := a4) (d := 5) (x := x5) (by omega) i
  have z5 : (a4.put (some 5) x5).tmps.size = 83 := put_size.trans z4
  generalize a4.put (some 5) x5 = a5 at g5 z5 ⊢
  rw [put_get (by omega), g5, g4, g3, g2, g1]
  by_cases h6 : i = 6
  · rw [if_pos h6, h6]; exact hg6
  by_cases h5 : i = 5
  · rw [if_neg h6, if_pos h5, h5]; exact hg5
  by_cases h20 : i = 20
  · rw [if_neg h6, if_neg h5, if_pos h20, h20]; exact hg20
  by_cases h19 : i = 19
  · rw [if_neg h6, if_neg h5, if_neg h20, if_pos h19, h19]; exact hg19
  by_cases h18 : i = 18
  · rw [if_neg h6, if_neg h5, if_neg h20, if_neg h19, if_pos h18, h18]; exact hg18
  by_cases h17 : i = 17
  · rw [if_neg h6, if_neg h5, if_neg h20, if_neg h19, if_neg h18, if_pos h17, h17]; exact hg17
  rw [if_neg h6, if_neg h5, if_neg h20, if_neg h19, if_neg h18, if_neg h17]
  exact hd h5 h6 h17 h18 h19 h20
end Go.Proofs.YtfgjhfmgacopoaaDoor
