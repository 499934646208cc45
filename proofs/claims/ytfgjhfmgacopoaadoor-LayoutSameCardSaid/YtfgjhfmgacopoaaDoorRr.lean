import Derived.Test.YtfgjhfmgacopoaaDoorPu
import Derived.OrdersIn
import Derived.RangeFuncCalls
import Derived.TacticsIn
import Derived.Shelf.RegionOpen
namespace Go.Proofs.YtfgjhfmgacopoaaDoor
set_option linter.unusedVariables false
set_option linter.unusedSimpArgs false
/-! A region that draws its order, by a relation between what has come up, the frame and the world: in a round too. -/
/-- How many of a region's operations have not come up. -/
def unl (N : Nat) (listed : Array Bool) : Nat := (List.range N).countP fun j => listed.getD j true == false
theorem countP_lt {p q : Nat → Bool} : (l : List Nat) → (∀ x ∈ l, q x = true → p x = true) → (i : Nat) → i ∈ l → p i = true → q i = false → l.countP q < l.countP p
  | [], _, i, hi, _, _ => by cases hi
  | x :: l, h, i, hi, h1, h2 => by
    have hle : l.countP q ≤ l.countP p := List.countP_mono_left fun y hy => h y (List.mem_cons_of_mem _ hy)
    rw [List.countP_cons, List.countP_cons]
    rcases List.mem_cons.1 hi with rfl | hi
    · rw [h1, h2]; simp; omega
    · have ih := countP_lt l (fun y hy => h y (List.mem_cons_of_mem _ hy)) i hi h1 h2
      have hx := h x (List.mem_cons_self ..)
      cases hq : q x
      · simp; split <;> omega
      · rw [hx hq]; simp; omega
theorem getD_set {l : Array Bool} {i j : Nat} (h : l.getD i true = false) : (l.setIfInBounds i true).getD j true = if j = i then true else l.getD j true := by
  have hi : i < l.size := by
    by_cases hi : i < l.size
    · exact hi
    · simp [hi] at h
  by_cases hj : j = i
  · subst hj; simp [hi]
  · simp [Array.getElem?_setIfInBounds, Ne.symm hj, hj]
theorem unl_set {N i : Nat} {l : Array Bool} (h : l.getD i true = false) (hi : i < N) : unl N (l.setIfInBounds i true) < unl N l := by
  unfold unl
  refine countP_lt _ (fun x _ hx => ?_) i (List.mem_range.2 hi) (by simp only [beq_iff_eq]; exact h) (by rw [getD_set h, if_pos rfl]; rfl)
  rw [getD_set h] at hx
  split at hx
  · cases hx
  · exact hx
section
variable {F : Fence} {n : Nat} {P : Program} {md : Region.Mode} {ops : Array Oper} {Q : Exit → Act → World → Prop}
/-- What an operation waits for has come up. -/
def Clo (md : Region.Mode) (ops : Array Oper) (listed : Array Bool) : Prop :=
  listed.size = ops.size ∧ ∀ i o, ops[i]? = some o → listed.getD i true = true → ∀ e ∈ o.after, Region.binds md e = true → listed.getD e.on true = true
theorem getD_tf {l : Array Bool} {i : Nat} (h : l.getD i false = true) : l.getD i true = true := by
  by_cases hi : i < l.size
  · simp [hi] at h ⊢; exact h
  · simp [hi]
theorem Clo.set {listed : Array Bool} (h : Clo md ops listed) {i : Nat} (hi : i ∈ Region.ready md ops listed) : Clo md ops (listed.setIfInBounds i true) := by
  obtain ⟨h1, o, ho, hd⟩ := mem_ready.1 hi
  refine ⟨by simpa using h.1, fun j p hp hj e he hb => ?_⟩
  rw [getD_set h1] at hj ⊢
  by_cases hje : j = i
  · subst hje
    rw [ho] at hp; cases hp
    split
    · rfl
    · exact getD_tf (hd e he hb)
  · rw [if_neg hje] at hj
    split
    · rfl
    · exact h.2 j p hp hj e he hb
theorem wpAnyIn_inv (Inv : Array Bool → Act → World → Prop)
    (hstep : ∀ listed a w i, Clo md ops listed → Inv listed a w → i ∈ Region.ready md ops listed → wpOpIn F n P ops Q i (fun a' w' => Inv (listed.setIfInBounds i true) a' w') a w)
    (hdone : ∀ listed a w, Clo md ops listed → Inv listed a w → Region.ready md ops listed = [] → Q .normal a w) :
    ∀ (fuel : Nat) (listed : Array Bool) (a : Act) (w : World), unl ops.size listed ≤ fuel → Clo md ops listed → Inv listed a w → wpAnyIn F n P md ops Q fuel listed a w
  | 0, listed, a, w, hu, hc, hi => by
    have hr : Region.ready md ops listed = [] := by
      apply List.eq_nil_iff_forall_not_mem.2
      intro i hi'
      obtain ⟨h1, o, ho, _⟩ := mem_ready.1 hi'
      have hlt : i < ops.size := (Array.getElem?_eq_some_iff.1 ho).1
      have := unl_set (N := ops.size) h1 hlt
      omega
    exact ⟨hr, hdone _ _ _ hc hi hr⟩
  | fuel + 1, listed, a, w, hu, hc, hi => ⟨fun hr => hdone _ _ _ hc hi hr, fun i hi' => by
      obtain ⟨h1, o, ho, _⟩ := mem_ready.1 hi'
      have hlt : i < ops.size := (Array.getElem?_eq_some_iff.1 ho).1
      have := unl_set (N := ops.size) h1 hlt
      exact wpOpIn_mono (fun a' w' h => wpAnyIn_inv Inv hstep hdone fuel _ a' w' (by omega) (hc.set hi') h) (hstep listed a w i hc hi hi')⟩
theorem region_inv {id : Nat} {a : Act} {w : World} (hm : P.follows .mixedOrders = true) (Inv : Array Bool → Act → World → Prop)
    (h0 : Inv (Array.replicate ops.size false) a w.drew)
    (hstep : ∀ listed a w i, Clo .any ops listed → Inv listed a w → i ∈ Region.ready .any ops listed → wpOpIn F n P ops Q i (fun a' w' => Inv (listed.setIfInBounds i true) a' w') a w)
    (hdone : ∀ listed a w, Clo .any ops listed → Inv listed a w → Region.ready .any ops listed = [] → Q .normal a w) : (Code.region id ops true).wpIn F n P Q a w :=
  wpIn_region_any hm (wpAnyIn_inv Inv hstep hdone _ _ _ _ (by
    unfold unl
    refine Nat.le_trans (List.countP_le_length ..) (by simp)) ⟨by simp, fun i o ho hi => by
      have hlt : i < ops.size := (Array.getElem?_eq_some_iff.1 ho).1
      simp [hlt] at hi⟩ h0)
/-- Where nothing may come up, all has come up. -/
theorem ready_nil {listed : Array Bool} (hb : ((List.range ops.size).all fun i => ((ops[i]?).map fun o => o.after.all fun e => decide (e.on < i)).getD true) = true) (hs : listed.size = ops.size) (hr : Region.ready md ops listed = []) : ∀ i, i < ops.size → listed.getD i true = true := by
  have hlt : ∀ (i : Nat) (o : Oper), ops[i]? = some o → ∀ e ∈ o.after, e.on < i := fun i o ho e he => by
    have h := List.all_eq_true.1 hb i (List.mem_range.2 (Array.getElem?_eq_some_iff.1 ho).1)
    rw [ho] at h
    simp only [Option.map_some, Option.getD_some] at h
    obtain ⟨k, hk, rfl⟩ := Array.mem_iff_getElem.1 he
    have := Array.all_eq_true.1 h k hk
    exact of_decide_eq_true this
  intro i
  induction i using Nat.strongRecOn with
  | _ i ih =>
    intro hi
    cases hc : listed.getD i true with
    | true => rfl
    | false =>
      have hm : i ∈ Region.ready md ops listed := mem_ready.2 ⟨hc, ops[i], Array.getElem?_eq_getElem hi, fun e he _ => by
        have hl := hlt i _ (Array.getElem?_eq_getElem hi) e he
        have := ih e.on hl (by omega)
        have hl2 : e.on < listed.size := by omega
        simp [hl2] at this ⊢
        exact this⟩
      rw [hr] at hm; cases hm
/-- An operation that hands over a value. -/
theorem step_val {i : Nat} {o : Oper} {K : Act → World → Prop} {a : Act} {w w' : World} {v : Value} (ho : ops[i]? = some o) (hg : o.guard = none) (hnd : ∀ c, o.op ≠ .defer c) (hab : o.about P w a.eval = none)
    (hr : (execOp a.eval o).run P w = .ok (.value v) w') (hK : K (a.put o.dst v) w') : wpOpIn F n P ops Q i K a w := by
  unfold wpOpIn
  rw [ho]
  have hw : Region.wanted o (yielded ops a.tmps) = true := by unfold Region.wanted; rw [hg]
  simp only [hw, if_true]
  refine ⟨fun f hf => (by rw [hab] at hf; cases hf), ?_⟩
  rw [Oper.semAt_eq _ _ _ hnd, hr]
  exact hK
/-- A store. -/
theorem step_skip_ {i : Nat} {o : Oper} {K : Act → World → Prop} {a : Act} {w w' : World} (ho : ops[i]? = some o) (hg : o.guard = none) (hnd : ∀ c, o.op ≠ .defer c) (hab : o.about P w a.eval = none)
    (hr : (execOp a.eval o).run P w = .ok .skip w') (hK : K (a.put o.dst undef) w') : wpOpIn F n P ops Q i K a w := by
  unfold wpOpIn
  rw [ho]
  have hw : Region.wanted o (yielded ops a.tmps) = true := by unfold Region.wanted; rw [hg]
  simp only [hw, if_true]
  refine ⟨fun f hf => (by rw [hab] at hf; cases hf), ?_⟩
  rw [Oper.semAt_eq _ _ _ hnd, hr]
  exact hK
/-- A call that returns. -/
theorem step_calls {i : Nat} {o : Oper} {K : Act → World → Prop} {a : Act} {w w' : World} {f : FuncId} {args : Array Value} (ho : ops[i]? = some o) (hg : o.guard = none) (hnd : ∀ c, o.op ≠ .defer c) (hF : ∀ f, F.fn f)
    (hr : (execOp a.eval o).run P w = .ok (.enter f args) w') (hd : F.depth.isSome = true → 1 ≤ n)
    (hK : CallsIn F (n - 1) P f args w' fun e w'' => ∃ v, e = .returned v ∧ K (a.put o.dst v) w'') : wpOpIn F n P ops Q i K a w := by
  unfold wpOpIn
  rw [ho]
  have hw : Region.wanted o (yielded ops a.tmps) = true := by unfold Region.wanted; rw [hg]
  simp only [hw, if_true]
  refine ⟨fun f _ => hF f, ?_⟩
  rw [Oper.semAt_eq _ _ _ hnd, hr]
  exact ⟨hd, hK.mono fun e w'' ⟨v, he, hk⟩ => by subst he; exact hk⟩
end
theorem eval_put {a : Act} {d x : Nat} {v : Value} (hd : d < a.tmps.size) : (a.put (some d) v).eval (.tmp x) = if x = d then v else a.eval (.tmp x) := by
  by_cases h : x = d
  · subst h; simp [Act.put, Act.eval, hd]
  · simp [Act.put, Act.eval, Array.getElem?_setIfInBounds, Ne.symm h, h]
theorem tmp_put {a : Act} {d x : Nat} {v : Value} (hd : d < a.tmps.size) : (a.put (some d) v).tmps[x]?.getD undef = if x = d then v else a.tmps[x]?.getD undef := by
  by_cases h : x = d
  · subst h; simp [Act.put, hd]
  · simp [Act.put, Array.getElem?_setIfInBounds, Ne.symm h, h]
end Go.Proofs.YtfgjhfmgacopoaaDoor
