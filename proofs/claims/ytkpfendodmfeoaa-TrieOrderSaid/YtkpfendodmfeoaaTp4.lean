import Derived.Test.YtkpfendodmfeoaaTp3
namespace Go.Proofs.Ytkpfendodmfeoaa
set_option linter.unusedVariables false
set_option linter.unusedSimpArgs false
variable {α : Type}
/-! A key that goes. -/
/-- What is left of a node, behind what is dropped: nothing, or it is one with the only one below it, or it stands. -/
def shut (e : Bs) (y : Nd α) (r : F α) : F α :=
  if y.many = 0 then r
  else match y.is, y.kids with
    | false, .cons e2 i2 w2 m2 k2 .nil => .cons (e ++ e2) i2 w2 m2 k2 r
    | _, _ => .cons e y.is y.v y.many y.kids r
def dropF (z : α) (f : F α) (s : Bs) : F α :=
  match f with
  | .nil => .nil
  | .cons e i w m k r =>
    if hd e < hd s then .cons e i w m k (dropF z r s)
    else if h : 0 < e.length ∧ e.length ≤ s.length then
      if s.drop e.length = [] then shut e ⟨e, false, z, m - 1, k⟩ r
      else shut e ⟨e, i, w, m - 1, dropF z k (s.drop e.length)⟩ r
    else f
termination_by (s.length, SizeOf.sizeOf f)
decreasing_by
  · simp_wf; right; omega
  · simp_wf; left; omega
def dropN (z : α) (x : Nd α) (s : Bs) : Nd α :=
  if s = [] then { x with is := false, v := z, many := x.many - 1 }
  else { x with many := x.many - 1, kids := dropF z x.kids s }
theorem F.len_ents : {f : F α} → f.ents = [] → f.Full → f = .nil
  | .nil, _, _ => rfl
  | .cons e i v m k r, h, ⟨h1, h2, h3⟩ => by
      rw [F.ents] at h
      obtain ⟨ha, _⟩ := List.append_eq_nil_iff.1 h
      have hb : own i v ++ k.ents = [] := by simpa [pre] using ha
      obtain ⟨hc, hd⟩ := List.append_eq_nil_iff.1 hb
      rcases h1 with e1 | e1
      · rw [e1] at hc; cases hc
      · have := F.len_ents hd h2
        rw [this] at e1; simp [F.len] at e1
theorem shut_ents (e : Bs) (y : Nd α) (r : F α) (hm : y.many = y.ents.length) : (shut e y r).ents = pre e y.ents ++ r.ents := by
  unfold shut
  split
  · rename_i h
    rw [hm] at h
    rw [List.eq_nil_of_length_eq_zero h]; rfl
  · obtain ⟨ye, yi, yv, ym, yk⟩ := y
    cases yi with
    | true => rfl
    | false =>
      cases yk with
      | nil => rfl
      | cons e2 i2 w2 m2 k2 r2 =>
        cases r2 with
        | nil => simp [F.ents, Nd.ents, own, pre_pre]
        | cons e3 i3 w3 m3 k3 r3 => rfl
theorem pre_mem {p k : Bs} {l : Ents α} {v : α} (h : lget (pre p l) k = some v) : k = p ++ k.drop p.length ∧ lget l (k.drop p.length) = some v := by
  have h2 := lget_mem h
  obtain ⟨q, hq, e⟩ := List.mem_map.1 h2
  have e1 : k = p ++ q.1 := (congrArg Prod.fst e).symm
  have e2 : k.drop p.length = q.1 := by rw [e1, List.drop_left]
  have e3 : k = p ++ k.drop p.length := by rw [e2]; exact e1
  refine ⟨e3, ?_⟩
  rw [← h]
  exact (lget_pre' e3).symm
theorem ldrop_len {l : Ents α} {k : Bs} {v : α} (hr : Rise l) (h : lget l k = some v) : (ldrop l k).length = l.length - 1 := by
  induction l with
  | nil => cases h
  | cons q l ih =>
    obtain ⟨x, u⟩ := q
    have h2 := List.pairwise_cons.1 hr
    rw [lget] at h
    by_cases hx : x = k
    · subst hx
      have : ldrop l x = l := ldrop_none fun q hq e => by
        have := h2.1 q hq
        rw [e, ltB_irr] at this; cases this
      unfold ldrop at this ⊢
      rw [List.filter_cons_of_neg (by simp), this]; rfl
    · rw [if_neg hx] at h
      have h3 := ih h2.2 h
      have h4 : 0 < l.length := List.length_pos_iff.2 (fun e => by rw [e] at h; cases h)
      unfold ldrop at h3 ⊢
      rw [List.filter_cons_of_pos (by simpa using hx), List.length_cons, h3, List.length_cons]; omega
theorem eq_of_present {e : Bs} {i : Bool} {w : α} {m : Nat} {k r : F α} {s : Bs} {u : α} (h : (F.cons e i w m k r).WF) (hge : ¬ hd e < hd s) (hs : lget (F.cons e i w m k r).ents s = some u) :
    lget r.ents s = none ∧ s = e ++ s.drop e.length ∧ lget (own i w ++ k.ents) (s.drop e.length) = some u ∧ 0 < e.length ∧ e.length ≤ s.length := by
  obtain ⟨h1, h2, h3, h4⟩ := h
  have hR := F.rest_lt h1 h2 h4.ord
  have hrn : lget r.ents s = none := lget_none fun q hq e2 => by have := (hR q hq).2; rw [e2] at this; omega
  rw [F.ents, lget_append, hrn, Option.or_none] at hs
  obtain ⟨a, b⟩ := pre_mem hs
  refine ⟨hrn, a, b, List.length_pos_iff.2 h1, ?_⟩
  have := congrArg List.length a
  rw [List.length_append] at this; omega
/-- What a node is behind a drop, in entries. -/
theorem ldrop_own {i : Bool} {w z : α} {k : F α} (hk : k.Ord) : ldrop (own i w ++ k.ents) [] = own false z ++ k.ents := by
  rw [ldrop_append, ldrop_none (fun q hq => (F.ents_hd hk q hq).1)]
  unfold own ldrop
  cases i <;> simp
theorem ldrop_own2 {i : Bool} {w : α} {k : F α} {s : Bs} (hs : s ≠ []) : ldrop (own i w ++ k.ents) s = own i w ++ ldrop k.ents s := by
  rw [ldrop_append]
  congr 1
  refine ldrop_none fun q hq e => ?_
  have := own_lt hs q hq
  rw [e, ltB_irr] at this; cases this
theorem lget_own {i : Bool} {w : α} {l : Ents α} {s : Bs} (hs : s ≠ []) : lget (own i w ++ l) s = lget l s := by
  rw [lget_append, lget_none, Option.none_or]
  intro q hq e2
  have := own_lt hs q hq
  rw [e2, ltB_irr] at this; cases this
theorem shut_wf {e : Bs} {y : Nd α} {r : F α} (he : e ≠ []) (h2 : ∀ n j, r.nth j = some n → hd e < hd n.edge) (hk : y.kids.WF) (hr : r.WF) : (shut e y r).WF := by
  unfold shut
  split
  · exact hr
  · obtain ⟨ye, yi, yv, ym, yk⟩ := y
    have hhe : ∀ t : Bs, hd (e ++ t) = hd e := fun t => by
      cases e with
      | nil => exact absurd rfl he
      | cons x e => rfl
    cases yi with
    | true => exact ⟨he, h2, hk, hr⟩
    | false =>
      cases yk with
      | nil => exact ⟨he, h2, hk, hr⟩
      | cons e2 i2 w2 m2 k2 r2 =>
        cases r2 with
        | nil => exact ⟨by simp [he], fun n j h => by rw [hhe]; exact h2 n j h, hk.2.2.1, hr⟩
        | cons e3 i3 w3 m3 k3 r3 => exact ⟨he, h2, hk, hr⟩
theorem shut_many {e : Bs} {y : Nd α} {r : F α} (hm : y.many = y.ents.length) (hk : y.kids.Many) (hr : r.Many) : (shut e y r).Many := by
  unfold shut
  split
  · exact hr
  · obtain ⟨ye, yi, yv, ym, yk⟩ := y
    cases yi with
    | true => exact ⟨hm, hk, hr⟩
    | false =>
      cases yk with
      | nil => exact ⟨hm, hk, hr⟩
      | cons e2 i2 w2 m2 k2 r2 =>
        cases r2 with
        | nil => exact ⟨hk.1, hk.2.1, hr⟩
        | cons e3 i3 w3 m3 k3 r3 => exact ⟨hm, hk, hr⟩
theorem shut_full {e : Bs} {y : Nd α} {r : F α} (hm : y.many = y.ents.length) (hk : y.kids.Full) (hr : r.Full) : (shut e y r).Full := by
  unfold shut
  split
  · exact hr
  · rename_i hm0
    obtain ⟨ye, yi, yv, ym, yk⟩ := y
    cases yi with
    | true => exact ⟨.inl rfl, hk, hr⟩
    | false =>
      cases yk with
      | nil => exact absurd hm hm0
      | cons e2 i2 w2 m2 k2 r2 =>
        cases r2 with
        | nil => exact ⟨hk.1, hk.2.1, hr⟩
        | cons e3 i3 w3 m3 k3 r3 => exact ⟨.inr (by simp [F.len]), hk, hr⟩
theorem shut_zero {z : α} {e : Bs} {y : Nd α} {r : F α} (hy : y.is = false → y.v = z) (hk : y.kids.Zero z) (hr : r.Zero z) : (shut e y r).Zero z := by
  unfold shut
  split
  · exact hr
  · obtain ⟨ye, yi, yv, ym, yk⟩ := y
    cases yi with
    | true => exact ⟨hy, hk, hr⟩
    | false =>
      cases yk with
      | nil => exact ⟨hy, hk, hr⟩
      | cons e2 i2 w2 m2 k2 r2 =>
        cases r2 with
        | nil => exact ⟨hk.1, hk.2.1, hr⟩
        | cons e3 i3 w3 m3 k3 r3 => exact ⟨hy, hk, hr⟩
theorem shut_nth {e : Bs} {y : Nd α} {r : F α} (he : e ≠ []) {j : Nat} {n : Nd α} (h : (shut e y r).nth j = some n) : hd n.edge = hd e ∨ ∃ i, r.nth i = some n := by
  unfold shut at h
  have hhe : ∀ t : Bs, hd (e ++ t) = hd e := fun t => by
    cases e with
    | nil => exact absurd rfl he
    | cons x e => rfl
  split at h
  · exact .inr ⟨_, h⟩
  · obtain ⟨ye, yi, yv, ym, yk⟩ := y
    have norm : ∀ {a : Bool} {b : α} {c : Nat} {d : F α} {e' : Bs}, hd e' = hd e → (F.cons e' a b c d r).nth j = some n → hd n.edge = hd e ∨ ∃ i, r.nth i = some n := fun he' h => by
      cases j with
      | zero => simp only [F.nth] at h; cases h; exact .inl he'
      | succ j => exact .inr ⟨j, h⟩
    cases yi with
    | true => exact norm rfl h
    | false =>
      cases yk with
      | nil => exact norm rfl h
      | cons e2 i2 w2 m2 k2 r2 =>
        cases r2 with
        | nil => exact norm (hhe _) h
        | cons e3 i3 w3 m3 k3 r3 => exact norm rfl h
theorem dropF_nth {z : α} {f : F α} {s : Bs} (hW : f.WF) {j : Nat} {n : Nd α} (h : (dropF z f s).nth j = some n) : ∃ m i, f.nth i = some m ∧ hd n.edge = hd m.edge := by
  induction f generalizing j with
  | nil => rw [dropF] at h; simp [F.nth] at h
  | cons e i w m k r _ ih2 =>
    obtain ⟨h1, h2, h3, h4⟩ := hW
    rw [dropF] at h
    have hsh : ∀ y : Nd α, (shut e y r).nth j = some n → ∃ m' i', (F.cons e i w m k r).nth i' = some m' ∧ hd n.edge = hd m'.edge := fun y h => by
      rcases shut_nth h1 h with e1 | ⟨i', e1⟩
      · exact ⟨_, 0, rfl, e1⟩
      · exact ⟨n, i' + 1, e1, rfl⟩
    split at h
    · cases j with
      | zero => exact ⟨_, 0, rfl, by simp only [F.nth] at h; cases h; rfl⟩
      | succ j =>
        obtain ⟨m', i', e1, e2⟩ := ih2 h4 h
        exact ⟨m', i' + 1, e1, e2⟩
    · split at h
      · split at h <;> exact hsh _ h
      · exact ⟨n, j, h, rfl⟩
/-- What a drop leaves: the entries, and all that was right. -/
theorem dropF_all (z : α) : ∀ (n : Nat) (s : Bs), s.length = n → s ≠ [] → ∀ (f : F α) (u : α), f.WF → f.Many → lget f.ents s = some u →
    (dropF z f s).ents = ldrop f.ents s ∧ (dropF z f s).WF ∧ (dropF z f s).Many ∧ (f.Full → (dropF z f s).Full) ∧ (f.Zero z → (dropF z f s).Zero z) := by
  intro n
  induction n using Nat.strongRecOn with
  | _ n ih =>
    intro s hn hs f u
    induction f with
    | nil => intro _ _ h; cases h
    | cons e i w m k r _ ihr =>
      intro hW hM hg
      obtain ⟨h1, h2, h3, h4⟩ := hW
      obtain ⟨m1, m2, m3⟩ := hM
      rw [dropF]
      split
      · rename_i hlt
        have hno : ∀ q ∈ pre e (own i w ++ k.ents), q.1 ≠ s := fun q hq e2 => by have := (pre_hd h1 hq).2; rw [e2] at this; omega
        rw [F.ents, lget_append, lget_none hno, Option.none_or] at hg
        obtain ⟨a, b, c, d, e1⟩ := ihr h4 m3 hg
        refine ⟨by rw [F.ents, F.ents, a, ldrop_append, ldrop_none hno], ⟨h1, fun n' j h => ?_, h3, b⟩, ⟨m1, m2, c⟩, fun hF => ⟨hF.1, hF.2.1, d hF.2.2⟩, fun hZ => ⟨hZ.1, hZ.2.1, e1 hZ.2.2⟩⟩
        obtain ⟨m', i', x1, x2⟩ := dropF_nth h4 h
        have := h2 m' i' x1; omega
      · rename_i hge
        obtain ⟨p1, p2, p3, p4, p5⟩ := eq_of_present ⟨h1, h2, h3, h4⟩ hge hg
        rw [dif_pos ⟨p4, p5⟩]
        have hR : ∀ q ∈ r.ents, q.1 ≠ s := fun q hq e2 => by
          have x := (F.rest_lt h1 h2 h4.ord q hq).2
          rw [e2] at x
          have hh : hd s = hd e := by
            rw [p2]
            cases e with
            | nil => exact absurd rfl h1
            | cons y e => rfl
          omega
        have hld : ldrop (F.cons e i w m k r).ents s = pre e (ldrop (own i w ++ k.ents) (s.drop e.length)) ++ r.ents := by
          rw [F.ents, ldrop_append, ldrop_none hR]
          congr 1
          conv => lhs; rw [p2]
          rw [ldrop_pre]
        have hrise : Rise (own i w ++ k.ents) := by
          have := F.rise (f := F.cons e i w m k .nil) (one_wf i w m h1 h3)
          rw [F.ents, F.ents, List.append_nil] at this
          unfold Rise pre at this
          rw [List.pairwise_map] at this
          exact this.imp fun {a b} h => by rwa [ltB_pre] at h
        have hlen := ldrop_len hrise p3
        split
        · rename_i h0
          rw [h0] at hld hlen p3
          have hX : ldrop (own i w ++ k.ents) [] = own false z ++ k.ents := ldrop_own h3.ord
          rw [hX] at hld hlen
          have hy : (⟨e, false, z, m - 1, k⟩ : Nd α).many = (⟨e, false, z, m - 1, k⟩ : Nd α).ents.length := by
            show m - 1 = (own false z ++ k.ents).length
            rw [hlen, m1]
          exact ⟨by rw [shut_ents _ _ _ hy, hld]; rfl, shut_wf h1 h2 h3 h4, shut_many hy m2 m3, fun hF => shut_full hy hF.2.1 hF.2.2, fun hZ => shut_zero (fun _ => rfl) hZ.2.1 hZ.2.2⟩
        · rename_i h0
          rw [lget_own h0] at p3
          obtain ⟨a, b, c, d, e1⟩ := ih _ (by rw [List.length_drop]; omega) _ rfl h0 k u h3 m2 p3
          rw [ldrop_own2 h0, ← a] at hld hlen
          have hy : (⟨e, i, w, m - 1, dropF z k (s.drop e.length)⟩ : Nd α).many = (⟨e, i, w, m - 1, dropF z k (s.drop e.length)⟩ : Nd α).ents.length := by
            show m - 1 = (own i w ++ (dropF z k (s.drop e.length)).ents).length
            rw [hlen, m1]
          exact ⟨by rw [shut_ents _ _ _ hy, hld]; rfl, shut_wf h1 h2 b h4, shut_many hy c m3, fun hF => shut_full hy (d hF.2.1) hF.2.2, fun hZ => shut_zero hZ.1 (e1 hZ.2.1) hZ.2.2⟩
end Go.Proofs.Ytkpfendodmfeoaa
