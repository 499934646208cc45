import Derived.Test.YtfgjhfmgacopoaaDoorWp
import Derived.Test.YtfgjhfmgacopoaaDoorWf
namespace Go.Proofs.YtfgjhfmgacopoaaDoor
set_option linter.unusedVariables false
set_option linter.unusedSimpArgs false
open Go.RowKit
/-! Plain texts, and where their clusters part. -/
def fP (r : Int) : Int := if r = 9 ∨ r = 10 ∨ r = 13 then 32 else if ctl r = true then -1 else r
def ps (l : Bs) : List Nat := (runes l).flatMap fun (r : Nat) => if 0 ≤ fP (r : Int) then [(fP (r : Int)).toNat] else []
def pl (l : Bs) : Bs := (ps l).flatMap enc
theorem ctl32 : ctl 32 = false := by decide
theorem fP_fP {r : Int} (h : 0 ≤ fP r) : fP (fP r) = fP r := by
  by_cases h1 : r = 9 ∨ r = 10 ∨ r = 13
  · have e : fP r = 32 := by unfold fP; rw [if_pos h1]
    rw [e]; decide
  · by_cases h2 : ctl r = true
    · have e : fP r = -1 := by unfold fP; rw [if_neg h1, if_pos h2]
      rw [e] at h; omega
    · have e : fP r = r := by unfold fP; rw [if_neg h1, if_neg h2]
      rw [e, e]
theorem ps_ok (l : Bs) : ∀ r ∈ ps l, Utf8.valid (r : Int) = true ∧ fP (r : Int) = r := fun r hr => by
  obtain ⟨x, hx, hm⟩ := List.mem_flatMap.1 hr
  split at hm
  · rename_i h0
    have e : r = (fP (x : Int)).toNat := by simpa using hm
    have hv := runes_val l x hx
    have hc : (r : Int) = fP (x : Int) := by rw [e]; omega
    refine ⟨?_, by rw [hc]; exact fP_fP h0⟩
    rw [hc]
    unfold fP at h0 ⊢
    split
    · exact (valid_iff _).2 (by omega)
    · split
      · rename_i h1 h2; rw [if_neg h1, if_pos h2] at h0; omega
      · exact hv
  · cases hm
def Pl (s : Bs) : Prop := pl s = s
theorem ps_of {rs : List Nat} (h : ∀ r ∈ rs, Utf8.valid (r : Int) = true ∧ fP (r : Int) = r) : ps (rs.flatMap enc) = rs := by
  unfold ps
  have := runes_enc rs (fun r hr => (h r hr).1) []
  rw [List.append_nil, runes_nil, List.append_nil] at this
  rw [this]
  clear this
  induction rs with
  | nil => rfl
  | cons r rs ih =>
    have h1 := (h r (List.mem_cons_self ..)).2
    rw [List.flatMap_cons, ih fun x hx => h x (List.mem_cons_of_mem _ hx), h1, if_pos (by omega)]
    simp
theorem pl_of {rs : List Nat} (h : ∀ r ∈ rs, Utf8.valid (r : Int) = true ∧ fP (r : Int) = r) : Pl (rs.flatMap enc) := by
  unfold Pl pl; rw [ps_of h]
theorem pl_pl (l : Bs) : Pl (pl l) := pl_of (ps_ok l)
theorem Pl.of {s : Bs} (h : Pl s) : s = (ps s).flatMap enc := h.symm
theorem Pl.app {a b : Bs} (ha : Pl a) (hb : Pl b) : Pl (a ++ b) := by
  rw [ha.of, hb.of, ← List.flatMap_append]
  refine pl_of fun r hr => ?_
  rcases List.mem_append.1 hr with e | e
  · exact ps_ok a r e
  · exact ps_ok b r e
theorem Pl.nil : Pl [] := pl_of (rs := []) fun r hr => by cases hr
theorem Pl.clean {s : Bs} (h : Pl s) : Proofs.YtfgjhfmgacopoaaDoor.clean s = s := by
  have e := h.of
  unfold Proofs.YtfgjhfmgacopoaaDoor.clean
  conv => lhs; rw [e]
  have := runes_enc (ps s) (fun r hr => (ps_ok s r hr).1) []
  rw [List.append_nil, runes_nil, List.append_nil] at this
  rw [this]; exact h
theorem Pl.sg {s : Bs} (h : Pl s) : Proofs.YtfgjhfmgacopoaaDoor.sg s = (ps s).map enc := by
  have e := sg_enc (ps s) fun r hr => (ps_ok s r hr).1
  rwa [show (ps s).flatMap enc = s from h] at e
/-- Any signs of a plain text, put together, are plain. -/
theorem Pl.part {s : Bs} (h : Pl s) {a b d : List Bs} (hs : Proofs.YtfgjhfmgacopoaaDoor.sg s = a ++ (b ++ d)) : Pl b.flatten := by
  have e := h.sg
  rw [hs] at e
  have hb : ∀ x ∈ b, ∃ r ∈ ps s, x = enc r := fun x hx => by
    have : x ∈ (ps s).map enc := by rw [← e]; simp [hx]
    obtain ⟨r, h1, h2⟩ := List.mem_map.1 this
    exact ⟨r, h1, h2.symm⟩
  clear e hs
  induction b with
  | nil => exact Pl.nil
  | cons x b ih =>
    obtain ⟨r, h1, hxe⟩ := hb x (List.mem_cons_self ..)
    rw [List.flatten_cons, hxe]
    have h2 : Pl (enc r) := by
      have h3 : [r].flatMap enc = enc r := by simp
      rw [← h3]
      exact pl_of fun y hy => by rw [List.mem_singleton.1 hy]; exact ps_ok s r h1
    exact h2.app (ih fun y hy => hb y (List.mem_cons_of_mem _ hy))
/-! Clusters of parts. -/
def hd0 (c : Bs) : Bool := match sg c with | p :: _ => w0 p | [] => true
theorem cl_good (l : Bs) (ps : List Bs) : ∀ (pre : List Bs) (p : Bs) (ws : List Bs), sg l = pre ++ ((p :: ws) ++ ps) → (∀ q ∈ ws, w0 q = true) →
    (cl (p :: ws).flatten ps).flatMap sg = (p :: ws) ++ ps ∧ (∀ c ∈ (cl (p :: ws).flatten ps).tail, hd0 c = false) ∧ ∃ c t, cl (p :: ws).flatten ps = c :: t ∧ (sg c).head? = some p := by
  induction ps with
  | nil =>
    intro pre p ws h hw
    have hm := sg_mid l pre (p :: ws) [] h
    refine ⟨by simp only [cl, List.flatMap_cons, List.flatMap_nil]; rw [hm], by simp [cl], (p :: ws).flatten, [], rfl, by rw [hm]; rfl⟩
  | cons q qs ih =>
    intro pre p ws h hw
    rw [cl]
    split
    · rename_i hq
      have := ih pre p (ws ++ [q]) (by rw [h]; simp) (fun x hx => by
        rcases List.mem_append.1 hx with e | e
        · exact hw x e
        · rw [List.mem_singleton.1 e]; exact hq)
      have e : (p :: (ws ++ [q])).flatten = (p :: ws).flatten ++ q := by simp
      rw [e] at this
      obtain ⟨h1, h2, h3⟩ := this
      exact ⟨by rw [h1]; simp, h2, h3⟩
    · rename_i hq
      have hm := sg_mid l pre (p :: ws) (q :: qs) h
      have := ih (pre ++ (p :: ws)) q [] (by rw [h]; simp) (fun x hx => by cases hx)
      have e : [q].flatten = q := by simp
      rw [e] at this
      obtain ⟨h1, h2, c, t, h3, h4⟩ := this
      refine ⟨by rw [List.flatMap_cons, hm, h1]; rfl, fun x hx => ?_, (p :: ws).flatten, cl q qs, rfl, by rw [hm]; rfl⟩
      rw [List.tail_cons, h3] at hx
      rcases List.mem_cons.1 hx with e2 | e2
      · rw [e2]
        unfold hd0
        cases hs : sg c with
        | nil => rw [hs] at h4; cases h4
        | cons y ys =>
          rw [hs] at h4
          have : y = q := by simpa using h4
          rw [this]; simpa using hq
      · exact h2 x (by rw [h3]; exact e2)
theorem cuts_good (s : Bs) : (cuts s).flatMap sg = sg s ∧ ∀ c ∈ (cuts s).tail, hd0 c = false := by
  unfold cuts
  cases hs : sg s with
  | nil => simp [cutP]
  | cons p qs =>
    have := cl_good s qs [] p [] (by rw [hs]; rfl) (fun x hx => by cases hx)
    have e : [p].flatten = p := by simp
    rw [e] at this
    exact ⟨this.1, this.2.1⟩
theorem IsCl.ne {c : Bs} (h : IsCl c) : c ≠ [] := fun e => by
  obtain ⟨p, ws, h1, _⟩ := h
  rw [e, sg_nil] at h1; cases h1
theorem cutP_good : (ds : List Bs) → (∀ c ∈ ds, IsCl c) → (∀ c ∈ ds.tail, hd0 c = false) → cutP (ds.flatMap sg) = ds
  | [], _, _ => rfl
  | [c], h1, _ => by
      obtain ⟨p, ws, e, hw⟩ := h1 c (List.mem_cons_self ..)
      have hf := sg_flat c
      simp only [List.flatMap_cons, List.flatMap_nil, List.append_nil]
      rw [e, cutP, cl_w0 _ _ hw]
      rw [e] at hf
      rw [← hf]; simp
  | c :: d :: ds, h1, h2 => by
      obtain ⟨p, ws, e, hw⟩ := h1 c (List.mem_cons_self ..)
      have hf := sg_flat c
      have ih := cutP_good (d :: ds) (fun x hx => h1 x (List.mem_cons_of_mem _ hx)) (fun x hx => h2 x (by simp at hx ⊢; exact .inr hx))
      have hd := h2 d (by simp)
      obtain ⟨q, us, e2, hw2⟩ := h1 d (by simp)
      have hq : w0 q = false := by
        unfold hd0 at hd
        rw [e2] at hd
        exact hd
      rw [List.flatMap_cons] at ih ⊢
      rw [e2, List.cons_append, cutP] at ih
      rw [List.flatMap_cons, e, e2, List.cons_append, cutP, List.cons_append, cl_new _ _ _ _ hq, ih, cl_w0 _ _ hw]
      rw [e] at hf
      rw [← hf]; simp
theorem flat_sg : (ds : List Bs) → (ds.flatMap sg).flatten = ds.flatten
  | [] => rfl
  | c :: ds => by rw [List.flatMap_cons, List.flatten_append, sg_flat, List.flatten_cons, flat_sg ds]
theorem tail_sub {α : Type} : (a : List α) → (n : Nat) → ∀ x ∈ (a.drop n).tail, x ∈ a.tail
  | a, 0, x, h => by simpa using h
  | [], n + 1, x, h => by simp at h
  | y :: a, n + 1, x, h => by
      rw [List.drop_succ_cons] at h
      have h2 := List.mem_of_mem_tail h
      exact List.mem_of_mem_drop h2
/-- Some clusters of a text, one behind the other, are a text's clusters. -/
theorem cuts_mid (s : Bs) (i n : Nat) : cuts (((cuts s).drop i).take n).flatten = ((cuts s).drop i).take n ∧ sg (((cuts s).drop i).take n).flatten = (((cuts s).drop i).take n).flatMap sg := by
  obtain ⟨h1, h2⟩ := cuts_good s
  have hsp : sg s = ((cuts s).take i).flatMap sg ++ (((((cuts s).drop i).take n).flatMap sg) ++ ((((cuts s).drop i).drop n).flatMap sg)) := by
    rw [← List.flatMap_append, List.take_append_drop, ← List.flatMap_append, List.take_append_drop, h1]
  have hm := sg_mid s _ _ _ hsp
  rw [flat_sg] at hm
  refine ⟨?_, hm⟩
  unfold cuts
  unfold cuts at hm
  rw [hm]
  refine cutP_good _ (fun c hc => ?_) (fun c hc => ?_)
  · exact cuts_is (List.mem_of_mem_drop (List.mem_of_mem_take hc))
  · refine h2 c (tail_sub _ i c ?_)
    unfold cuts
    generalize (cutP (sg s)).drop i = a at hc ⊢
    cases a with
    | nil => simp at hc
    | cons x a =>
      cases n with
      | zero => simp at hc
      | succ n =>
        rw [List.take_succ_cons] at hc
        exact List.mem_of_mem_take hc
def off (cs : List Bs) (k : Nat) : Nat := (cs.take k).flatten.length
theorem Pl.mid {s : Bs} (h : Pl s) (i n : Nat) : Pl (((cuts s).drop i).take n).flatten := by
  obtain ⟨h1, h2⟩ := cuts_good s
  have hsp : Proofs.YtfgjhfmgacopoaaDoor.sg s = ((cuts s).take i).flatMap Proofs.YtfgjhfmgacopoaaDoor.sg ++ (((((cuts s).drop i).take n).flatMap Proofs.YtfgjhfmgacopoaaDoor.sg) ++ ((((cuts s).drop i).drop n).flatMap Proofs.YtfgjhfmgacopoaaDoor.sg)) := by
    rw [← List.flatMap_append, List.take_append_drop, ← List.flatMap_append, List.take_append_drop, h1]
  have := h.part hsp
  rwa [flat_sg] at this
theorem flat_take (cs : List Bs) (k : Nat) : cs.flatten.take (off cs k) = (cs.take k).flatten ∧ cs.flatten.drop (off cs k) = (cs.drop k).flatten := by
  have e : cs.flatten = (cs.take k).flatten ++ (cs.drop k).flatten := by rw [← List.flatten_append, List.take_append_drop]
  unfold off
  rw [e]
  exact ⟨List.take_left, List.drop_left⟩
theorem cut_take (s : Bs) (k : Nat) : s.take (off (cuts s) k) = ((cuts s).take k).flatten := by
  have := (flat_take (cuts s) k).1
  rwa [cuts_flat] at this
theorem cut_drop (s : Bs) (k : Nat) : s.drop (off (cuts s) k) = ((cuts s).drop k).flatten := by
  have := (flat_take (cuts s) k).2
  rwa [cuts_flat] at this
theorem off_zero (cs : List Bs) : off cs 0 = 0 := by simp [off]
theorem off_all (cs : List Bs) (k : Nat) (h : cs.length ≤ k) : off cs k = cs.flatten.length := by unfold off; rw [List.take_of_length_le h]
theorem off_succ {cs : List Bs} {k : Nat} {c : Bs} (h : cs[k]? = some c) : off cs (k + 1) = off cs k + c.length := by
  unfold off
  rw [List.take_add_one, h]
  simp
theorem off_mono (cs : List Bs) {j k : Nat} (h : j ≤ k) : off cs j ≤ off cs k := by
  unfold off
  have : (cs.take k).flatten = ((cs.take k).take j).flatten ++ ((cs.take k).drop j).flatten := by rw [← List.flatten_append, List.take_append_drop]
  rw [List.take_take, Nat.min_eq_left h] at this
  rw [this, List.length_append]; omega
theorem off_lt {cs : List Bs} (hn : ∀ c ∈ cs, c ≠ []) {j k : Nat} (h : j < k) (hk : k ≤ cs.length) : off cs j < off cs k := by
  obtain ⟨c, hc⟩ : ∃ c, cs[j]? = some c := ⟨_, List.getElem?_eq_getElem (by omega)⟩
  have h1 := off_succ hc
  have h2 := off_mono cs (show j + 1 ≤ k from h)
  have := List.length_pos_iff.2 (hn c (List.mem_of_getElem? hc))
  omega
theorem bnds_off : (cs : List Bs) → (j k : Nat) → k ≤ cs.length → (bnds j cs)[k]? = some (j + off cs k)
  | [], j, k, h => by
      have : k = 0 := by simpa using h
      subst this; simp [bnds, off]
  | c :: cs, j, 0, _ => by simp [bnds, off]
  | c :: cs, j, k + 1, h => by
      rw [bnds, List.getElem?_cons_succ, bnds_off cs _ k (by simpa using h)]
      simp [off, Nat.add_assoc]
end Go.Proofs.YtfgjhfmgacopoaaDoor
namespace Go.Proofs.YtfgjhfmgacopoaaDoor
set_option linter.unusedVariables false
set_option linter.unusedSimpArgs false
open Go.RowKit
/-! Back to a bound, on to a bound; lines. -/
def bkV (bs : List Nat) (a : Int) : Nat := bs.foldl (fun out (x : Nat) => if (x : Int) ≤ a then x else out) 0
def back (s : Bs) (a : Int) : Nat := bkV (bnds 0 (cuts s)) a
def onV (bs : List Nat) (n : Nat) (a : Int) : Nat := match bs.find? (fun (x : Nat) => decide (a ≤ (x : Int))) with | some x => x | none => n
def on (s : Bs) (a : Int) : Nat := onV (bnds 0 (cuts s)) s.length a
theorem fold_last (a : Int) : (bs : List Nat) → (d : Nat) → ((∀ x ∈ bs, a < (x : Int)) ∧ bs.foldl (fun out (x : Nat) => if (x : Int) ≤ a then x else out) d = d) ∨
    ∃ (l1 : List Nat) (x : Nat) (l2 : List Nat), bs = l1 ++ x :: l2 ∧ (x : Int) ≤ a ∧ (∀ y ∈ l2, a < (y : Int)) ∧ bs.foldl (fun out (x : Nat) => if (x : Int) ≤ a then x else out) d = x
  | [], d => .inl ⟨(fun x h => by cases h), rfl⟩
  | x :: bs, d => by
      rw [List.foldl_cons]
      rcases fold_last a bs (if (x : Int) ≤ a then x else d) with ⟨h1, h2⟩ | ⟨l1, y, l2, h1, h2, h3, h4⟩
      · by_cases hx : (x : Int) ≤ a
        · rw [if_pos hx] at h2 ⊢
          exact .inr ⟨[], x, bs, rfl, hx, h1, h2⟩
        · rw [if_neg hx] at h2 ⊢
          refine .inl ⟨fun z hz => ?_, h2⟩
          rcases List.mem_cons.1 hz with e | e
          · rw [e]; omega
          · exact h1 z e
      · exact .inr ⟨x :: l1, y, l2, by rw [h1]; rfl, h2, h3, h4⟩
/-- The bound that a place goes back to. -/
def BackIs (cs : List Bs) (a : Int) (k : Nat) : Prop := k ≤ cs.length ∧ ((off cs k : Int) ≤ a ∨ k = 0) ∧ ∀ j, k < j → j ≤ cs.length → a < (off cs j : Int)
def OnIs (cs : List Bs) (a : Int) (k : Nat) : Prop := k ≤ cs.length ∧ (a ≤ (off cs k : Int) ∨ k = cs.length) ∧ ∀ j, j < k → (off cs j : Int) < a
theorem bnds_at_off {cs : List Bs} {k x : Nat} (h : (bnds 0 cs)[k]? = some x) : k ≤ cs.length ∧ x = off cs k := by
  have hk : k ≤ cs.length := by
    have := (List.getElem?_eq_some_iff.1 h).1
    rw [bnds_len] at this; omega
  refine ⟨hk, ?_⟩
  rw [bnds_off cs 0 k hk, Nat.zero_add] at h
  exact (Option.some.inj h).symm
theorem mem_bnds {cs : List Bs} {x : Nat} : x ∈ bnds 0 cs ↔ ∃ k, k ≤ cs.length ∧ x = off cs k := by
  constructor
  · intro h
    obtain ⟨k, hk⟩ := List.mem_iff_getElem?.1 h
    obtain ⟨a, b⟩ := bnds_at_off hk
    exact ⟨k, a, b⟩
  · rintro ⟨k, hk, rfl⟩
    have := bnds_off cs 0 k hk
    rw [Nat.zero_add] at this
    exact List.mem_of_getElem? this
theorem back_is (s : Bs) (a : Int) : ∃ k, BackIs (cuts s) a k ∧ back s a = off (cuts s) k := by
  unfold back bkV
  rcases fold_last a (bnds 0 (cuts s)) 0 with ⟨h1, h2⟩ | ⟨l1, x, l2, h1, h2, h3, h4⟩
  · refine ⟨0, ⟨Nat.zero_le _, .inr rfl, fun j _ hj => h1 _ (mem_bnds.2 ⟨j, hj, rfl⟩)⟩, by rw [h2, off_zero]⟩
  · have hx : (bnds 0 (cuts s))[l1.length]? = some x := by rw [h1]; simp
    obtain ⟨hk, e⟩ := bnds_at_off hx
    refine ⟨l1.length, ⟨hk, .inl (by rw [← e]; exact h2), fun j h5 hj => h3 _ ?_⟩, by rw [h4, e]⟩
    have hb := bnds_off (cuts s) 0 j hj
    rw [Nat.zero_add, h1, List.getElem?_append_right (by omega)] at hb
    obtain ⟨m, hm⟩ : ∃ m, j - l1.length = m + 1 := ⟨j - l1.length - 1, by omega⟩
    rw [hm, List.getElem?_cons_succ] at hb
    exact List.mem_of_getElem? hb
theorem BackIs.one {cs : List Bs} {a : Int} {k k' : Nat} (h : BackIs cs a k) (h' : BackIs cs a k') : k = k' := by
  rcases Nat.lt_trichotomy k k' with e | e | e
  · have := h.2.2 k' e h'.1
    rcases h'.2.1 with e2 | e2 <;> omega
  · exact e
  · have := h'.2.2 k e h.1
    rcases h.2.1 with e2 | e2 <;> omega
theorem back_eq {s : Bs} {a : Int} {k : Nat} (h : BackIs (cuts s) a k) : back s a = off (cuts s) k := by
  obtain ⟨k', h1, h2⟩ := back_is s a
  rw [h2, h1.one h]
theorem on_is (s : Bs) (a : Int) : ∃ k, OnIs (cuts s) a k ∧ on s a = off (cuts s) k := by
  unfold on onV
  cases hf : (bnds 0 (cuts s)).find? (fun (x : Nat) => decide (a ≤ (x : Int))) with
  | none =>
    have h1 := List.find?_eq_none.1 hf
    refine ⟨(cuts s).length, ⟨Nat.le_refl _, .inr rfl, fun j hj => ?_⟩, ?_⟩
    · have := h1 _ (mem_bnds.2 ⟨j, by omega, rfl⟩)
      simp at this; omega
    · rw [off_all _ _ (Nat.le_refl _), cuts_flat]
  | some x =>
    obtain ⟨hx, l1, l2, h1, h2⟩ := List.find?_eq_some_iff_append.1 hf
    have hxx : (bnds 0 (cuts s))[l1.length]? = some x := by rw [h1]; simp
    obtain ⟨hk, e⟩ := bnds_at_off hxx
    refine ⟨l1.length, ⟨hk, .inl (by rw [← e]; simpa using hx), fun j hj => ?_⟩, e⟩
    have hb := bnds_off (cuts s) 0 j (by omega)
    rw [Nat.zero_add, h1, List.getElem?_append_left hj] at hb
    have := h2 _ (List.mem_of_getElem? hb)
    simp at this; omega
theorem OnIs.one {cs : List Bs} {a : Int} {k k' : Nat} (h : OnIs cs a k) (h' : OnIs cs a k') : k = k' := by
  rcases Nat.lt_trichotomy k k' with e | e | e
  · have := h'.2.2 k e
    rcases h.2.1 with e2 | e2
    · omega
    · have := h'.1; omega
  · exact e
  · have := h.2.2 k' e
    rcases h'.2.1 with e2 | e2
    · omega
    · have := h.1; omega
theorem on_eq {s : Bs} {a : Int} {k : Nat} (h : OnIs (cuts s) a k) : on s a = off (cuts s) k := by
  obtain ⟨k', h1, h2⟩ := on_is s a
  rw [h2, h1.one h]
theorem back_off (s : Bs) {k : Nat} (hk : k ≤ (cuts s).length) : back s (off (cuts s) k : Int) = off (cuts s) k :=
  back_eq ⟨hk, .inl (Int.le_refl _), fun j h1 h2 => by have := off_lt (cuts_nz s) h1 h2; omega⟩
theorem on_off (s : Bs) {k : Nat} (hk : k ≤ (cuts s).length) : on s (off (cuts s) k : Int) = off (cuts s) k :=
  on_eq ⟨hk, .inl (Int.le_refl _), fun j h1 => by have := off_lt (cuts_nz s) h1 hk; omega⟩
theorem back_next (s : Bs) {k : Nat} (hk : k < (cuts s).length) : on s ((off (cuts s) k : Int) + 1) = off (cuts s) (k + 1) :=
  on_eq ⟨hk, .inl (by have := off_lt (cuts_nz s) (show k < k + 1 by omega) hk; omega), fun j h1 => by have := off_mono (cuts s) (show j ≤ k by omega); omega⟩
theorem on_end (s : Bs) {a : Int} (h : (s.length : Int) ≤ a) : on s a = s.length := by
  have e : off (cuts s) (cuts s).length = s.length := by rw [off_all _ _ (Nat.le_refl _), cuts_flat]
  rw [← e]
  exact on_eq ⟨Nat.le_refl _, .inr rfl, fun j hj => by have := off_lt (cuts_nz s) hj (Nat.le_refl _); omega⟩
theorem back_prev (s : Bs) {k : Nat} (hk : k + 1 ≤ (cuts s).length) : back s ((off (cuts s) (k + 1) : Int) - 1) = off (cuts s) k :=
  back_eq ⟨by omega, .inl (by have := off_lt (cuts_nz s) (show k < k + 1 by omega) hk; omega), fun j h1 h2 => by have := off_mono (cuts s) (show k + 1 ≤ j by omega); omega⟩
theorem back_neg (s : Bs) {a : Int} (h : a < 0) : back s a = 0 := by
  have := back_eq (s := s) (a := a) (k := 0) ⟨Nat.zero_le _, .inr rfl, fun j h1 h2 => by omega⟩
  rwa [off_zero] at this
theorem off_le (s : Bs) (k : Nat) : off (cuts s) k ≤ s.length := by
  have h := off_mono (cuts s) (Nat.le_max_left k (cuts s).length)
  rwa [off_all _ _ (Nat.le_max_right ..), cuts_flat] at h
theorem back_le (s : Bs) (a : Int) : back s a ≤ s.length := by
  obtain ⟨k, _, h⟩ := back_is s a
  rw [h]; exact off_le s k
theorem on_le (s : Bs) (a : Int) : on s a ≤ s.length := by
  obtain ⟨k, _, h⟩ := on_is s a
  rw [h]; exact off_le s k
theorem back_at (s : Bs) {a : Int} (h : 0 ≤ a) : (back s a : Int) ≤ a := by
  obtain ⟨k, h1, h2⟩ := back_is s a
  rw [h2]
  rcases h1.2.1 with e | e
  · exact e
  · rw [e, off_zero]; omega
/-- A line's text. -/
def mkS (s : Bs) : Bs := if 600 < (pl s).length then (pl s).take (back (pl s) 600) else pl s
theorem Pl.take {s : Bs} (h : Pl s) (k : Nat) : Pl (s.take (off (cuts s) k)) := by
  rw [cut_take]
  have := h.mid 0 k
  rwa [List.drop_zero] at this
theorem Pl.drop {s : Bs} (h : Pl s) (k : Nat) : Pl (s.drop (off (cuts s) k)) := by
  rw [cut_drop]
  have := h.mid k (cuts s).length
  rwa [List.take_of_length_le (by rw [List.length_drop]; omega)] at this
theorem mkS_pl (s : Bs) : Pl (mkS s) := by
  unfold mkS
  split
  · obtain ⟨k, _, h⟩ := back_is (pl s) 600
    rw [h]; exact (pl_pl s).take k
  · exact pl_pl s
theorem mkS_len (s : Bs) : (mkS s).length ≤ 600 := by
  unfold mkS
  split
  · rw [List.length_take]
    have := back_at (pl s) (a := 600) (by omega)
    omega
  · omega
theorem mkS_id {s : Bs} (h : Pl s) (hl : s.length ≤ 600) : mkS s = s := by
  unfold mkS
  rw [show pl s = s from h, if_neg (by omega)]
theorem mkS_mkS (s : Bs) : mkS (mkS s) = mkS s := mkS_id (mkS_pl s) (mkS_len s)
def rightB (s : Bs) (a : Int) : Bool := decide (pl s = s) && (decide (s.length ≤ 600) && ((bnds 0 (cuts s)).map (fun (x : Nat) => (x : Int))).contains a)
theorem mem_bndsI {s : Bs} {a : Int} : ((bnds 0 (cuts s)).map (fun (x : Nat) => (x : Int))).contains a = true ↔ ∃ k, k ≤ (cuts s).length ∧ a = (off (cuts s) k : Int) := by
  rw [List.contains_iff_mem]
  constructor
  · intro h
    obtain ⟨x, h1, h2⟩ := List.mem_map.1 h
    obtain ⟨k, a1, a2⟩ := mem_bnds.1 h1
    exact ⟨k, a1, by rw [← h2, a2]⟩
  · rintro ⟨k, h1, h2⟩
    exact List.mem_map.2 ⟨_, mem_bnds.2 ⟨k, h1, rfl⟩, h2.symm⟩
theorem right_ref (s : Bs) (a : Int) : (decide (0 ≤ a) && (decide (a ≤ (s.length : Int)) && ((back s a : Int) == a))) = ((bnds 0 (cuts s)).map (fun (x : Nat) => (x : Int))).contains a := by
  rw [Bool.eq_iff_iff, mem_bndsI]
  simp only [Bool.and_eq_true, decide_eq_true_eq, beq_iff_eq]
  constructor
  · rintro ⟨h1, h2, h3⟩
    obtain ⟨k, h4, h5⟩ := back_is s a
    exact ⟨k, h4.1, by rw [← h5, h3]⟩
  · rintro ⟨k, h1, rfl⟩
    exact ⟨by omega, by have := off_le s k; omega, by rw [back_off s h1]⟩
theorem right_of {s : Bs} {a : Int} {k : Nat} (h : Pl s) (hl : s.length ≤ 600) (hk : k ≤ (cuts s).length) (ha : a = (off (cuts s) k : Int)) : rightB s a = true := by
  unfold rightB
  rw [decide_eq_true (show pl s = s from h), decide_eq_true hl, mem_bndsI.2 ⟨k, hk, ha⟩]; rfl
theorem right_back {s : Bs} (h : Pl s) (hl : s.length ≤ 600) (a : Int) : rightB s (back s a : Int) = true := by
  obtain ⟨k, h1, h2⟩ := back_is s a
  exact right_of h hl h1.1 (by rw [h2])
theorem right_on {s : Bs} (h : Pl s) (hl : s.length ≤ 600) (a : Int) : rightB s (on s a : Int) = true := by
  obtain ⟨k, h1, h2⟩ := on_is s a
  exact right_of h hl h1.1 (by rw [h2])
def insS (S T : Bs) (A : Nat) : Bs := S.take A ++ T ++ S.drop A
theorem ins_pl {S T : Bs} (h : Pl S) (ht : Pl T) (a : Int) : Pl (insS S T (back S a)) := by
  obtain ⟨k, _, h2⟩ := back_is S a
  unfold insS
  rw [h2]
  exact ((h.take k).app ht).app (h.drop k)
theorem ins_len {S T : Bs} (A : Nat) : (insS S T A).length = S.length + T.length := by
  unfold insS
  simp only [List.length_append, List.length_take, List.length_drop]; omega
end Go.Proofs.YtfgjhfmgacopoaaDoor
