import Derived.Test.YtkpfendodmfeoaaTw18
import Derived.RangeFuncNested
import Derived.RangeFuncBound
import Derived.RangeFuncCalls
import Derived.RangeFuncLeaves
import Derived.Shelf.Abstract
import Derived.Shelf.RegionOpen
import Derived.OwnWalkIn
import Derived.TacticsInMore
import Derived.LoopNIn
import Derived.LoopIn
import Derived.Stop.RegionWithIn
namespace Go.Proofs.Ytkpfendodmfeoaa
set_option linter.unusedVariables false
set_option linter.unusedSimpArgs false
open Go.RowKit Go.Shelf
attribute [local go_sem] Oper.semAt_some
/-! Under: all keys below a node, told one by one. -/
abbrev Ent := Bs × V
def encE (x : Ent) : Array Value := #[str x.1, encV x.2]
/-- What a loop's body keeps of what the closure reads. -/
structure KpU (S : Nat → Prop) (W W' : World) : Prop where
  size : W.heap.size ≤ W'.heap.size
  at_ : ∀ b, S b → W'.heap[b]? = W.heap[b]?
  box : ∀ (k : Nat) (c : Array Value) (T : TypeId) (p : Nat × Nat), W.heap[k]? = some (.cells c T p) → (T = 27 ∨ T = 71) → W'.heap[k]? = W.heap[k]?
theorem KpU.refl {S : Nat → Prop} (W : World) : KpU S W W := ⟨Nat.le_refl _, fun _ _ => rfl, fun _ _ _ _ _ _ => rfl⟩
theorem KpU.t {S : Nat → Prop} {A B C : World} (h : KpU S A B) (k : KpU S B C) : KpU S A C :=
  ⟨Nat.le_trans h.size k.size, fun b hb => (k.at_ b hb).trans (h.at_ b hb), fun i c T p hi hT => by
    have h1 := h.box i c T p hi hT
    exact (k.box i c T p (h1.trans hi) hT).trans h1⟩
theorem KpU.drew {S : Nat → Prop} {A B : World} (h : KpU S A B) (n : Nat) : KpU S A (B.drewN n) := ⟨h.size, h.at_, h.box⟩
theorem yield_wide {m m' : Nat} {P : Program} {l : Nat} {args : Array Value} {W : World} {R : Ending → World → Prop} (h : YieldAt Fence.wide m P l args W R) : YieldAt Fence.wide m' P l args W R := by
  obtain ⟨fn, tmps, assign, body, h1, h2, h3⟩ := h
  exact ⟨fn, tmps, assign, body, h1, h2, fun c cs _ => h3 c cs (room_wide _)⟩
theorem wide_depth {p : Prop} (h : Fence.wide.depth.isSome = true) : p := by simp [Fence.wide] at h
theorem told_wide {m m' : Nat} {P : Program} {l : Nat} {args : Array Value} {W : World} {A B : World → Prop}
    (h : YieldAt Fence.wide m P l args W fun e W' => (e = .returned (.bool true) ∧ A W') ∨ (e = .returned (.bool false) ∧ B W')) :
    YieldAt Fence.wide m' P l args W fun e W' => ∃ b : Bool, e = .returned (.bool b) ∧ (b = true → A W') ∧ (b = false → B W') := by
  obtain ⟨fn, tmps, assign, body, h1, h2⟩ := yield_wide (m' := m') h
  refine ⟨fn, tmps, assign, body, h1, h2.mono fun e w' h => ?_⟩
  rcases h with ⟨rfl, h⟩ | ⟨rfl, h⟩
  · exact ⟨true, rfl, (fun _ => h), (fun e => by cases e)⟩
  · exact ⟨false, rfl, (fun e => by cases e), fun _ => h⟩
/-- The entries of the first ones, and of those below them. -/
def F.entsTo : F V → Nat → Ents V
  | .nil, _ => []
  | .cons _ _ _ _ _ _, 0 => []
  | .cons e i v _ k r, j + 1 => pre e (own i v ++ k.ents) ++ r.entsTo j
theorem F.entsTo_zero (f : F V) : f.entsTo 0 = [] := by cases f <;> rfl
theorem F.entsTo_all : (f : F V) → f.entsTo f.len = f.ents
  | .nil => rfl
  | .cons _ _ _ _ k r => by simp [F.len, F.entsTo, F.ents, F.entsTo_all r]
theorem F.entsTo_step : {f : F V} → {j : Nat} → {y : Nd V} → f.nth j = some y → f.entsTo (j + 1) = f.entsTo j ++ pre y.edge y.ents ∧ f.entsTo (j + 1) <+: f.ents
  | .nil, _, _, h => by simp [F.nth] at h
  | .cons e i v m k r, 0, y, h => by
      simp only [F.nth] at h
      cases h
      simp only [F.entsTo, F.entsTo_zero, F.ents, List.append_nil, List.nil_append]
      exact ⟨rfl, List.prefix_append _ _⟩
  | .cons e i v m k r, j + 1, y, h => by
      obtain ⟨a, b⟩ := F.entsTo_step (f := r) (j := j) h
      simp only [F.entsTo, F.ents, a, List.append_assoc]
      refine ⟨trivial, ?_⟩
      rw [← a]
      exact (List.prefix_append_right_inj _).2 b
theorem or_bool {e : Ending} {A B : Prop} (h : (e = .returned (.bool true) ∧ A) ∨ (e = .returned (.bool false) ∧ B)) : ∃ b : Bool, e = .returned (.bool b) ∧ (b = true → A) ∧ (b = false → B) := by
  rcases h with ⟨rfl, h⟩ | ⟨rfl, h⟩
  · exact ⟨true, rfl, (fun _ => h), (fun e => by cases e)⟩
  · exact ⟨false, rfl, (fun e => by cases e), fun _ => h⟩
def fn2 (yb db : Nat) : Value := .func (.func 41) #[] #[.pointer (some ⟨yb, 0, none⟩), .pointer (some ⟨db, 0, none⟩)]
theorem abides_none {β : Type} {B : Nat} {J : β → World → Prop} (h : AbidesFrom B J) {x : β} {w w' : World} (hj : J x w) (hg : w.grownBy w' none) : J x w' := h _ _ _ none hj hg (by simp)
theorem abides_drew {β : Type} {B : Nat} {J : β → World → Prop} (h : AbidesFrom B J) {x : β} {w : World} (hj : J x w) (n : Nat) : J x (w.drewN n) := abides_none h hj ⟨rfl, rfl, rfl, Nat.le_refl _, fun _ _ _ => rfl⟩
theorem pre_step (p e : Bs) (l m : Ents V) : pre p (l ++ pre e m) = pre p l ++ pre (p ++ e) m := by rw [pre_append, pre_pre]
set_option maxHeartbeats 3200000 in
set_option maxRecDepth 100000 in
/-- All below a node are told, or it is asked to end. -/
theorem down_in (yl B N : Nat) (J Jx : List Ent → World → Prop) (S : Nat → Prop) (hJ : AbidesFrom B J)
    (hY : ∀ pr x W1, J pr W1 → pr.length < N → x.1.length ≤ 4294967296 → YieldAt Fence.wide 0 Try.prog yl (encE x) W1 fun e W' => (e = .returned (.bool true) ∧ J (pr ++ [x]) W' ∧ KpU S W1 W') ∨ (e = .returned (.bool false) ∧ Jx (pr ++ [x]) W')) :
    ∀ (K : Nat) (n : Nd V) (a : Nat) (fa : List Nat) (p : Bs) (s : ByteArray) (pr0 : List Ent) (W : World) (yb db M d : Nat), n.kids.nodes < K → RepN encV W n a fa → (∀ b ∈ fa, S b) →
      W.heap[yb]? = some (.cells #[.func (.yield yl) #[] #[]] 27 (0, 0)) → W.heap[db]? = some (.cells #[fn2 yb db] 71 (0, 0)) →
      n.kids.Short M → p.length + M ≤ 4294967296 → n.kids.WF → pr0.length + n.ents.length ≤ N → J pr0 W → s = ⟨p.toArray⟩ →
      CallsIn Fence.wide d Try.prog 41 #[ptr a, .string s, .pointer (some ⟨yb, 0, none⟩), .pointer (some ⟨db, 0, none⟩)] W fun e W' =>
        (e = .returned (.bool true) ∧ J (pr0 ++ pre p n.ents) W' ∧ KpU S W W') ∨ (e = .returned (.bool false) ∧ ∃ q, q <+: pre p n.ents ∧ Jx (pr0 ++ q) W') := by
  intro K
  induction K with
  | zero => intro n a fa p s pr0 W yb db M d h; omega
  | succ K ih =>
    intro n a fa p s pr0 W yb db M d hK hr hS hyb hdb hSh hpM hW hN hJ0 hs
    have IH := Lib.hid ih
    have HY := Lib.hid hY
    have HJ := Lib.hid hJ
    have HS := Lib.hid hS
    have HST := Lib.hid hs
    have HSH := Lib.hid hSh
    have HWF := Lib.hid hW
    have hlen : n.kids.len ≤ 4294967296 := by have := F.ord_len hW.ord; omega
    obtain ⟨sv, qs, fk, hn, hk, hf, hp⟩ := id hr
    obtain ⟨k0, k1, k2, k3, k4⟩ := hn.cells
    obtain ⟨A, cap, rfl, _, _, hrd, _⟩ := hk.rd
    have c1 : W.cell? ⟨yb, 0, none⟩ = some (.func (.yield yl) #[] #[]) := by rw [cell_of_row W yb _ _ _ (0, 0) hyb]; rfl
    have HR := Lib.hid hr
    have HN := Lib.hid hn
    have HK := Lib.hid hk
    have HF := Lib.hid hf
    have HP := Lib.hid hp
    have HYB := Lib.hid hyb
    have HDB := Lib.hid hdb
    clear ih hY hJ hS hs hr hn hk hf hp hrd hyb hdb k0 k3 hSh hW
    refine callsIn_of_wp Try.func41 rfl trivial ?_
    simp only [Try.ntmps41, List.size_toArray, List.length_cons, List.length_nil, Nat.reduceAdd, Nat.reduceSub, Array.replicate_succ, Array.replicate_zero, List.push_toArray, List.append_toArray, List.nil_append, List.cons_append]
    have hfo : Try.prog.follows Departure.mixedOrders = true := by kernel_rfl
    have HPRE : ∀ j y q, n.kids.nth j = some y → q <+: pre (p ++ y.edge) y.ents → pre p (own n.is n.v ++ n.kids.entsTo j) ++ q <+: pre p n.ents := fun j y q hy hq => by
      obtain ⟨a1, a2⟩ := F.entsTo_step hy
      refine List.IsPrefix.trans ((List.prefix_append_right_inj _).2 hq) ?_
      rw [← pre_step, List.append_assoc, ← a1]
      obtain ⟨t, ht⟩ := a2
      exact ⟨pre p t, by rw [← pre_append, List.append_assoc, ht]; rfl⟩
    have HPRE := Lib.hid HPRE
    cases hi : n.is
    case' false =>
      rw [hi] at k1
      gi_wp2
      refine wpIn_wide.2 ?_
      go_quiet (fail)
      have hjx : J (pr0 ++ pre p (own n.is n.v ++ [])) (W.drewN nq) := by
        rw [hi]
        have := abides_drew HJ.out hJ0 nq
        simpa [own, pre] using this
      have hkx : KpU S W (W.drewN nq) := (KpU.refl W).drew nq
      gi_wp2
    case' true =>
      rw [hi] at k1
      obtain ⟨fn, tmps, assign, body, hy, hR⟩ := told_wide (m' := d - 1) (HY.out pr0 (p, n.v) W.drew (abides_drew HJ.out hJ0 1) (by have : 1 ≤ n.ents.length := (by rw [Nd.ents, hi]; simp [own]); omega) (show p.length ≤ 4294967296 by omega))
      unfold encE at hy
      dsimp only at hy
      rw [lit_of HST.out] at hy
      gi_wp2
      gi_region_with_o (refine ⟨wide_depth, ?_⟩; refine hR.mono ?_; rintro e W3 ⟨b, rfl, hb1, hb2⟩)
      all_goals cases b
      all_goals simp only [List.getElem_toArray, List.getElem_cons_zero, List.getElem_cons_succ, Act.put, Bool.not_true, Bool.not_false, List.setIfInBounds_toArray, List.set_cons_zero, List.set_cons_succ]
      all_goals try (
        replace hb2 := hb2 rfl
        gi_wp2
        refine bodyPost_ret (results_tmp rfl _ _ _) rfl ?_
        refine .inr ⟨rfl, [(p, n.v)], ?_, hb2⟩
        rw [Nd.ents, hi]
        exact ⟨pre p n.kids.ents, by simp [own, pre]⟩)
      all_goals
        obtain ⟨hjx0, hkx0⟩ := hb1 rfl
        have hkx : KpU S W W3 := ⟨hkx0.size, hkx0.at_, hkx0.box⟩
        have hjx : J (pr0 ++ pre p (own n.is n.v ++ [])) W3 := by rw [hi]; simpa [own, pre] using hjx0
        have k4' : W3.cell? ⟨a, 4, none⟩ = some (.slice A n.kids.len cap) := (NdAt.cells ((hkx.at_ a (HS.out a HR.out.mem)).trans HN.out)).2.2.2.2
        clear k4 hb1 hb2 hR hy
        gi_wp2
    all_goals
      gi_loopw [28] (fun u28 wr => ∃ j : Nat, u28 = n64 j ∧ j ≤ n.kids.len ∧ J (pr0 ++ pre p (own n.is n.v ++ n.kids.entsTo j)) wr ∧ KpU S W wr) (fun u28 _ => (n.kids.len - intOf u28).toNat)
      case atStart => exact ⟨0, rfl, Nat.zero_le _, by rw [F.entsTo_zero]; exact hjx, hkx⟩
      case round =>
        obtain ⟨j, rfl, hj, hJj, hKj⟩ := hrel
        by_cases hlt : j < n.kids.len
        · obtain ⟨y, hy⟩ := F.nth_some hlt
          obtain ⟨hye, hyW⟩ := HWF.out.nth hy
          obtain ⟨hyl, hyS⟩ := HSH.out.nth hy
          obtain ⟨s1, s2⟩ := F.upto_step hy
          obtain ⟨t1, t2⟩ := F.entsTo_step hy
          obtain ⟨a2, f2, fo, q1, q2, q3, _⟩ := HF.out.nth hy
          have hkw : Kids wr (.slice A n.kids.len cap) n.kids.len qs := Row.at_ HK.out fun k hk => hKj.at_ k (HS.out k (HP.out.mem_iff.2 (List.mem_cons_of_mem _ (List.mem_append_left _ (rbl_mem hk)))))
          obtain ⟨A9, cap9, hA9, _, _, hrd9, _⟩ := hkw.rd
          cases hA9
          obtain ⟨g, off, rfl, c2⟩ := hrd9 j (ptr a2) (by rw [List.getElem?_map, q1]; rfl)
          have hf2 : ∀ b ∈ f2, S b := fun b hb => HS.out b (HP.out.mem_iff.2 (List.mem_cons_of_mem _ (List.mem_append_right _ (q3.mem_iff.2 (List.mem_append_left _ hb)))))
          have hk2 : RepN encV wr y a2 f2 := q2.move fun b hb => hKj.at_ b (hf2 b hb)
          have hyb : wr.heap[yb]? = _ := (hKj.box yb _ _ _ HYB.out (.inl rfl)).trans HYB.out
          have hdb : wr.heap[db]? = _ := (hKj.box db _ _ _ HDB.out (.inr rfl)).trans HDB.out
          have c3 : wr.cell? ⟨db, 0, none⟩ = some (.func (.func 41) #[] #[.pointer (some ⟨yb, 0, none⟩), .pointer (some ⟨db, 0, none⟩)]) := by rw [cell_of_row wr db _ _ _ (0, 0) hdb]; rfl
          have c4 := hk2.edge
          obtain ⟨se, hse⟩ : ∃ se : ByteArray, se = ⟨y.edge.toArray⟩ := ⟨_, rfl⟩
          rw [lit_of hse] at c4
          obtain ⟨sj, hsj⟩ : ∃ sj : ByteArray, sj = ⟨(p ++ y.edge).toArray⟩ := ⟨_, rfl⟩
          have hadd : ∀ W, (Op.stringOp .add s se).run Try.prog W = .ok (.string sj) W := fun W => by rw [hsj]; exact add_str HST.out hse (by omega) W
          have hcount : (pr0 ++ pre p (own n.is n.v ++ n.kids.entsTo j)).length + y.ents.length ≤ N := by
            have := t2.length_le
            rw [t1, List.length_append] at this
            have e1 : (pre y.edge y.ents).length = y.ents.length := by simp [pre]
            rw [List.length_append]
            have e2 : (pre p (own n.is n.v ++ n.kids.entsTo j)).length = (own n.is n.v).length + (n.kids.entsTo j).length := by simp [pre]
            have e3 : n.ents.length = (own n.is n.v).length + n.kids.ents.length := by rw [Nd.ents, List.length_append]
            omega
          have hrec := IH.out y a2 f2 (p ++ y.edge) sj (pr0 ++ pre p (own n.is n.v ++ n.kids.entsTo j)) wr.drew yb db (M - y.edge.length) (d - 1) (by omega) (hk2.move fun _ _ => rfl) hf2 hyb hdb hyS (by rw [List.length_append]; omega) hyW hcount (abides_drew HJ.out hJj 1) hsj
          have HREC := Lib.hid (hrec.mono fun e w' h => or_bool h)
          have HYN := Lib.hid hy
          have HT1 := Lib.hid t1
          have b1 : (j : Int) < (n.kids.len : Int) := by omega
          have HKJ := Lib.hid hKj
          clear hrec hy hk2 hyb hdb hse hsj hcount hrd9 hkw q1 q2 q3 hf2 t1 t2 hJj hKj
          gi_wp2
          gi_region_with_o (refine ⟨trivial, wide_depth, ?_⟩; refine HREC.out.mono ?_; rintro e W4 ⟨b, rfl, hb1, hb2⟩)
          all_goals cases b
          all_goals simp only [List.getElem_toArray, List.getElem_cons_zero, List.getElem_cons_succ, Act.put, Bool.not_true, Bool.not_false, List.setIfInBounds_toArray, List.set_cons_zero, List.set_cons_succ]
          all_goals try (
            obtain ⟨q, hq, hjx4⟩ := hb2 rfl
            gi_wp2
            refine bodyPost_ret (results_tmp rfl _ _ _) rfl ?_
            refine .inr ⟨rfl, pre p (own n.is n.v ++ n.kids.entsTo j) ++ q, HPRE.out j y q HYN.out hq, ?_⟩
            rw [← List.append_assoc]
            exact hjx4)
          all_goals
            obtain ⟨hj4, hk4⟩ := hb1 rfl
            clear hb1 hb2
            gi_wp2
            go_roundw
            case rel =>
              refine ⟨j + 1, by go_num, by omega, ?_, HKJ.out.t ⟨hk4.size, hk4.at_, hk4.box⟩⟩
              rw [HT1.out, ← List.append_assoc, pre_step, ← List.append_assoc]
              exact hj4
            case measure => simp [intOf]; omega
        · have b1 : ¬ (j : Int) < (n.kids.len : Int) := by omega
          have hjn : j = n.kids.len := by omega
          subst hjn
          rw [F.entsTo_all] at hJj
          gi_wp2
          refine bodyPost_ret (results_tmp rfl _ _ _) rfl ?_
          exact .inl ⟨rfl, hJj, hKj⟩
end Go.Proofs.Ytkpfendodmfeoaa
