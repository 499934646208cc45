import Derived.Test.YtkpfendodmfeoaaTp4
namespace Go.Proofs.Ytkpfendodmfeoaa
set_option linter.unusedVariables false
set_option linter.unusedSimpArgs false
variable {α : Type}
theorem putF_len (z : α) (had : Bool) (v : α) : ∀ (f : F α) (s : Bs), s ≠ [] → f.Ord → f.len ≤ (putF z had f s v).len ∧ 1 ≤ (putF z had f s v).len
  | .nil, s, _, _ => by rw [putF]; simp [F.len]
  | .cons e i w m k r, s, hs, ⟨h1, _, h3⟩ => by
      have ih := putF_len z had v r s hs h3
      rw [putF]
      split
      · simp only [F.len]; omega
      · split
        · simp only [F.len]; omega
        · rename_i hne
          have hc := com_pos h1 hs (Classical.byContradiction hne)
          rw [dif_pos hc]
          split <;> split <;> simp [F.len]
theorem putF_two (z : α) (had : Bool) (v : α) (e : Bs) (i : Bool) (w : α) (m : Nat) (k : F α) (s : Bs) (h : hd e ≠ hd s) : (putF z had (.cons e i w m k .nil) s v).len = 2 := by
  rw [putF]
  split
  · rw [putF]; rfl
  · rfl
theorem putF_full (z : α) (had : Bool) (v : α) : ∀ (n : Nat) (s : Bs), s.length = n → s ≠ [] → ∀ f : F α, f.WF → f.Full → (putF z had f s v).Full := by
  intro n
  induction n using Nat.strongRecOn with
  | _ n ih =>
    intro s hn hs f
    induction f with
    | nil => intro _ _; rw [putF]; exact ⟨.inl rfl, trivial, trivial⟩
    | cons e i w m k r _ ihr =>
      rintro ⟨h1, h2, h3, h4⟩ ⟨f1, f2, f3⟩
      rw [putF]
      split
      · exact ⟨f1, f2, ihr h4 f3⟩
      · split
        · exact ⟨.inl rfl, trivial, f1, f2, f3⟩
        · rename_i hne
          have heq : hd e = hd s := Classical.byContradiction hne
          have hc := com_pos h1 hs heq
          have hcl := com_le e s
          rw [dif_pos hc]
          split
          · rename_i hlt
            have he' : e.drop (com e s) ≠ [] := List.length_pos_iff.1 (by rw [List.length_drop]; omega)
            have hW := one_wf i w m he' h3
            have hF : (F.cons (e.drop (com e s)) i w m k F.nil).Full := ⟨f1, f2, trivial⟩
            split
            · exact ⟨.inl rfl, hF, f3⟩
            · rename_i h0
              have hls : com e s < s.length := by
                have := List.length_pos_iff.2 h0
                rw [List.length_drop] at this; omega
              have h2' := putF_two z had v (e.drop (com e s)) i w m k (s.drop (com e s)) (Ne.symm (hd_drop_ne hlt hls))
              exact ⟨.inr (by rw [h2']; omega), ih _ (by rw [List.length_drop]; omega) _ rfl h0 _ hW hF, f3⟩
          · split
            · exact ⟨.inl rfl, f2, f3⟩
            · rename_i h0
              have hp := putF_len z had v k (s.drop (com e s)) h0 h3.ord
              exact ⟨f1.imp id (fun x => by omega), ih _ (by rw [List.length_drop]; omega) _ rfl h0 _ h3 f2, f3⟩
theorem putF_zero (z : α) (had : Bool) (v : α) : ∀ (n : Nat) (s : Bs), s.length = n → s ≠ [] → ∀ f : F α, f.Zero z → (putF z had f s v).Zero z := by
  intro n
  induction n using Nat.strongRecOn with
  | _ n ih =>
    intro s hn hs f
    induction f with
    | nil => intro _; rw [putF]; exact ⟨fun h => (by cases h), trivial, trivial⟩
    | cons e i w m k r _ ihr =>
      rintro ⟨f1, f2, f3⟩
      rw [putF]
      have hcl := com_le e s
      split
      · exact ⟨f1, f2, ihr f3⟩
      · split
        · exact ⟨fun h => (by cases h), trivial, f1, f2, f3⟩
        · split
          · rename_i hc
            split
            · split
              · exact ⟨fun h => (by cases h), ⟨f1, f2, trivial⟩, f3⟩
              · rename_i h0
                exact ⟨fun _ => rfl, ih _ (by rw [List.length_drop]; omega) _ rfl h0 _ ⟨f1, f2, trivial⟩, f3⟩
            · split
              · exact ⟨fun h => (by cases h), f2, f3⟩
              · rename_i h0
                exact ⟨f1, ih _ (by rw [List.length_drop]; omega) _ rfl h0 _ f2, f3⟩
          · exact ⟨f1, f2, f3⟩
/-! Finding. -/
def findF (f : F α) (s : Bs) : Option (Nd α × Nat) :=
  match f with
  | .nil => none
  | .cons e i w m k r =>
    if hd e < hd s then findF r s
    else if hd e ≠ hd s then none
    else if com e s = s.length then some (⟨e, i, w, m, k⟩, e.length - com e s)
    else if h : 0 < com e s then
      if com e s < e.length then none else findF k (s.drop (com e s))
    else none
termination_by (s.length, SizeOf.sizeOf f)
decreasing_by
  · simp_wf; right; omega
  · simp_wf; left; have := (com_le e s).2; omega
/-- Find, from a node on. -/
def findN (x : Nd α) (s : Bs) : Option (Nd α × Nat) := if s = [] then some (x, 0) else findF x.kids s
/-- What is behind s, of what begins with s. -/
def tailN (o : Option (Nd α × Nat)) : Ents α :=
  match o with
  | none => []
  | some (x, more) => pre (x.edge.drop (x.edge.length - more)) x.ents
def lunder (l : Ents α) (s : Bs) : Ents α := l.filter fun q => decide (s <+: q.1)
theorem lunder_append (l m : Ents α) (s : Bs) : lunder (l ++ m) s = lunder l s ++ lunder m s := List.filter_append ..
theorem lunder_none {l : Ents α} {s : Bs} (h : ∀ q ∈ l, ¬ s <+: q.1) : lunder l s = [] := List.filter_eq_nil_iff.2 fun q hq => by simpa using h q hq
theorem lunder_all {l : Ents α} {s : Bs} (h : ∀ q ∈ l, s <+: q.1) : lunder l s = l := List.filter_eq_self.2 fun q hq => by simpa using h q hq
theorem lunder_pre (p s : Bs) (l : Ents α) : lunder (pre p l) (p ++ s) = pre p (lunder l s) := by
  unfold lunder pre
  rw [List.filter_map]
  congr 1
  apply List.filter_congr
  intro q _
  simp [List.prefix_append_right_inj]
theorem prefix_hd {a b : Bs} (ha : a ≠ []) (h : a <+: b) : hd a = hd b := by
  obtain ⟨t, rfl⟩ := h
  cases a with
  | nil => exact absurd rfl ha
  | cons x a => rfl
theorem com_append (e t : Bs) : com e (e ++ t) = e.length := by
  induction e with
  | nil => rfl
  | cons x e ih => simp [com, ih]
theorem com_comm (a b : Bs) : com a b = com b a := by
  induction a generalizing b with
  | nil => cases b <;> rfl
  | cons x a ih =>
    cases b with
    | nil => rfl
    | cons y b =>
      unfold com
      by_cases h : x = y
      · subst h; simp [ih]
      · rw [if_neg h, if_neg (Ne.symm h)]
theorem findF_law : ∀ (n : Nat) (s : Bs), s.length = n → s ≠ [] → ∀ f : F α, f.WF → lunder f.ents s = pre s (tailN (findF f s)) := by
  intro n
  induction n using Nat.strongRecOn with
  | _ n ih =>
    intro s hn hs f
    induction f with
    | nil => intro _; rw [findF]; rfl
    | cons e i w m k r _ ihr =>
      rintro ⟨h1, h2, h3, h4⟩
      have hA : ∀ q ∈ pre e (own i w ++ k.ents), q.1 ≠ [] ∧ hd q.1 = hd e := fun q hq => pre_hd h1 hq
      have hR := F.rest_lt h1 h2 h4.ord
      rw [findF, F.ents, lunder_append]
      split
      · rename_i hlt
        rw [lunder_none fun q hq h => by have := prefix_hd hs h; have := (hA q hq).2; omega, List.nil_append, ihr h4]
      · rename_i hge
        have hrn : lunder r.ents s = [] := lunder_none fun q hq h => by have := prefix_hd hs h; have := (hR q hq).2; omega
        rw [hrn, List.append_nil]
        split
        · rename_i hne
          exact lunder_none fun q hq h => by have := prefix_hd hs h; have := (hA q hq).2; omega
        · rename_i hne
          have heq : hd e = hd s := Classical.byContradiction hne
          have hc := com_pos h1 hs heq
          have hcl := com_le e s
          split
          · rename_i hcs
            have hse : e = s ++ e.drop (com e s) := by
              have := com_take e s
              rw [hcs, List.take_length] at this
              conv => lhs; rw [← List.take_append_drop (com e s) e]
              rw [hcs, this]
            have hall : lunder (pre e (own i w ++ k.ents)) s = pre e (own i w ++ k.ents) := lunder_all fun q hq => by
              obtain ⟨x, _, rfl⟩ := List.mem_map.1 hq
              exact ⟨e.drop (com e s) ++ x.1, by rw [← List.append_assoc, ← hse]⟩
            have hdd : e.length - (e.length - com e s) = com e s := by omega
            rw [hall]
            show _ = pre s (pre (e.drop (e.length - (e.length - com e s))) (own i w ++ k.ents))
            rw [hdd, pre_pre, ← hse]
          · rename_i hcs
            split
            · rename_i hlt
              refine lunder_none fun q hq h => ?_
              obtain ⟨x, _, rfl⟩ := List.mem_map.1 hq
              obtain ⟨t, ht⟩ := h
              have a := com_ne e s hlt (by omega)
              apply a
              have b : (e ++ x.1)[com e s]? = (s ++ t)[com e s]? := by rw [ht]
              rw [List.getElem?_append_left hlt, List.getElem?_append_left (by omega)] at b
              exact b
            · rename_i hge2
              have hel : e.take (com e s) = e := List.take_of_length_le (by omega)
              have hsp : s = e ++ s.drop (com e s) := by have := take_drop_com e s; rwa [hel] at this
              have h0 : s.drop (com e s) ≠ [] := List.length_pos_iff.1 (by rw [List.length_drop]; omega)
              have e1 : lunder (pre e (own i w ++ k.ents)) s = pre e (lunder (own i w ++ k.ents) (s.drop (com e s))) := by
                conv => lhs; rw [hsp]
                rw [lunder_pre]
              have e2 : lunder (own i w ++ k.ents) (s.drop (com e s)) = lunder k.ents (s.drop (com e s)) := by
                rw [lunder_append, lunder_none, List.nil_append]
                intro q hq h
                unfold own at hq
                split at hq
                · rw [List.mem_singleton] at hq; subst hq; exact h0 (List.prefix_nil.1 h)
                · cases hq
              rw [e1, e2, ih _ (by rw [List.length_drop]; omega) _ rfl h0 _ h3, pre_pre, ← hsp]
theorem findN_law {x : Nd α} (s : Bs) (hk : x.kids.WF) (he : x.edge = []) : lunder x.ents s = pre s (tailN (findN x s)) := by
  unfold findN
  split
  · rename_i h
    subst h
    rw [lunder_all fun q _ => List.nil_prefix, pre_nil]
    simp [tailN, he, pre_nil]
  · rename_i h
    have := findF_law _ s rfl h _ hk
    rw [Nd.ents, lunder_append, this, lunder_none, List.nil_append]
    intro q hq hp
    unfold own at hq
    split at hq
    · rw [List.mem_singleton] at hq; subst hq; exact h (List.prefix_nil.1 hp)
    · cases hq
/-- What stands for a key, out of what begins with it. -/
theorem lget_under {l : Ents α} (hr : Rise l) (s : Bs) : lget l s = match lunder l s with | (k, v) :: _ => if k = s then some v else none | [] => none := by
  induction l with
  | nil => rfl
  | cons q l ih =>
    obtain ⟨x, u⟩ := q
    have h2 := List.pairwise_cons.1 hr
    rw [lget]
    by_cases hx : x = s
    · subst hx
      unfold lunder
      rw [if_pos rfl, List.filter_cons_of_pos (by simp)]
      simp
    · rw [if_neg hx]
      by_cases hp : s <+: x
      · have hlt : ltB s x = true := by
          obtain ⟨t, rfl⟩ := hp
          have : ltB (s ++ []) (s ++ t) = true := by rw [ltB_pre]; exact ltB_nil (fun e => hx (by rw [e, List.append_nil]))
          rwa [List.append_nil] at this
        unfold lunder
        rw [List.filter_cons_of_pos (by simpa using hp)]
        simp only [if_neg hx]
        refine lget_none fun q hq e => ?_
        have := ltB_tr _ _ _ hlt (h2.1 q hq)
        rw [e, ltB_irr] at this; cases this
      · unfold lunder at ih ⊢
        rw [List.filter_cons_of_neg (by simpa using hp)]
        exact ih h2.2
end Go.Proofs.Ytkpfendodmfeoaa
