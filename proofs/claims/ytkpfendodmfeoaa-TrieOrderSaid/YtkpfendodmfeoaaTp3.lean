import Derived.Test.YtkpfendodmfeoaaTp2
namespace Go.Proofs.Ytkpfendodmfeoaa
set_option linter.unusedVariables false
set_option linter.unusedSimpArgs false
variable {α : Type}
theorem lput_lt {l : Ents α} {k : Bs} {v : α} (h : ∀ q ∈ l, ltB k q.1 = true) : lput l k v = (k, v) :: l := lput_left [] l k v h
theorem ltB_nil {s : Bs} (h : s ≠ []) : ltB [] s = true := by
  cases s with
  | nil => exact absurd rfl h
  | cons x s => rfl
theorem own_lt {i : Bool} {w : α} {s : Bs} (h : s ≠ []) : ∀ q ∈ own i w, ltB q.1 s = true := by
  intro q hq
  unfold own at hq
  split at hq
  · rw [List.mem_singleton] at hq; subst hq; exact ltB_nil h
  · cases hq
theorem lget_pre' {p k k' : Bs} {l : Ents α} (h : k = p ++ k') : lget (pre p l) k = lget l k' := by rw [h, lget_pre]
theorem lput_pre' {p k k' : Bs} {l : Ents α} {v : α} (h : k = p ++ k') : lput (pre p l) k v = pre p (lput l k' v) := by rw [h, lput_pre]
theorem hd_drop {s : Bs} {c : Nat} (h : c < s.length) : hd (s.drop c) = (s[c]).toNat := by
  rw [List.drop_eq_getElem_cons h]; rfl
theorem hd_drop_ne {e s : Bs} (h1 : com e s < e.length) (h2 : com e s < s.length) : hd (s.drop (com e s)) ≠ hd (e.drop (com e s)) := by
  rw [hd_drop h1, hd_drop h2]
  intro a
  have b := UInt8.toNat_inj.1 a
  exact com_ne e s h1 h2 (by rw [List.getElem?_eq_getElem h1, List.getElem?_eq_getElem h2, b])
theorem one_wf {e : Bs} (i : Bool) (w : α) (m : Nat) {k : F α} (h : e ≠ []) (hk : k.WF) : (F.cons e i w m k .nil).WF := ⟨h, fun n j h => by simp [F.nth] at h, hk, trivial⟩
theorem take_drop_com (e s : Bs) : s = e.take (com e s) ++ s.drop (com e s) := by rw [com_take, List.take_append_drop]
/-- What is put is put into the entries. -/
theorem putF_ents (z : α) (had : Bool) (v : α) : ∀ (n : Nat) (s : Bs), s.length = n → s ≠ [] → ∀ f : F α, f.WF → (putF z had f s v).ents = lput f.ents s v := by
  intro n
  induction n using Nat.strongRecOn with
  | _ n ih =>
    intro s hn hs f
    induction f with
    | nil => intro _; rw [putF]; simp [F.ents, lput, pre, own]
    | cons e i w m k r _ ihr =>
      rintro ⟨h1, h2, h3, h4⟩
      have hA : ∀ q ∈ pre e (own i w ++ k.ents), q.1 ≠ [] ∧ hd q.1 = hd e := fun q hq => pre_hd h1 hq
      have hR := F.rest_lt h1 h2 h4.ord
      rw [putF]
      split
      · rename_i hlt
        rw [F.ents, F.ents, ihr h4, lput_right _ _ _ _ fun q hq => ltB_hd (hA q hq).1 hs (by rw [(hA q hq).2]; exact hlt)]
      · rename_i hge
        split
        · rename_i hne
          have hgt : hd s < hd e := by omega
          rw [lput_lt fun q hq => by
            rw [F.ents] at hq
            rcases List.mem_append.1 hq with h | h
            · exact ltB_hd hs (hA q h).1 (by rw [(hA q h).2]; exact hgt)
            · exact ltB_hd hs (hR q h).1 (by have := (hR q h).2; omega)]
          simp [F.ents, pre, own]
        · rename_i hne
          have heq : hd e = hd s := Classical.byContradiction hne
          have hc := com_pos h1 hs heq
          have hcl := com_le e s
          rw [dif_pos hc]
          have hsp : s = e.take (com e s) ++ s.drop (com e s) := take_drop_com e s
          rw [F.ents, lput_left _ _ _ _ fun q hq => ltB_hd hs (hR q hq).1 (by have := (hR q hq).2; omega)]
          split
          · rename_i hlt
            have hep : e = e.take (com e s) ++ e.drop (com e s) := (List.take_append_drop _ _).symm
            have he' : e.drop (com e s) ≠ [] := List.length_pos_iff.1 (by rw [List.length_drop]; omega)
            have hpe : pre e (own i w ++ k.ents) = pre (e.take (com e s)) (pre (e.drop (com e s)) (own i w ++ k.ents)) := by rw [pre_pre, ← hep]
            have key : lput (pre e (own i w ++ k.ents)) s v = pre (e.take (com e s)) (lput (pre (e.drop (com e s)) (own i w ++ k.ents)) (s.drop (com e s)) v) := by
              rw [hpe]; exact lput_pre' hsp
            rw [key]
            split
            · rename_i h0
              rw [h0, lput_lt fun q hq => ltB_nil (pre_hd he' hq).1]
              simp [F.ents, own]
            · rename_i h0
              rw [F.ents, ih _ (by rw [List.length_drop]; omega) _ rfl h0 _ (one_wf i w m he' h3)]
              simp [F.ents, own]
          · rename_i hge2
            have hel : e.take (com e s) = e := List.take_of_length_le (by omega)
            rw [hel] at hsp
            have key : lput (pre e (own i w ++ k.ents)) s v = pre e (lput (own i w ++ k.ents) (s.drop (com e s)) v) := lput_pre' hsp
            rw [key]
            split
            · rename_i h0
              rw [h0, F.ents]
              congr 2
              cases i with
              | true => simp [own, lput, ltB]
              | false =>
                have : ∀ q ∈ k.ents, ltB [] q.1 = true := fun q hq => ltB_nil (F.ents_hd h3.ord q hq).1
                simp only [own, if_true, List.nil_append, Bool.false_eq_true, if_false]
                rw [lput_lt this]; rfl
            · rename_i h0
              rw [F.ents, ih _ (by rw [List.length_drop]; omega) _ rfl h0 _ h3, lput_right _ _ _ _ (own_lt h0)]
theorem putF_wf (z : α) (had : Bool) (v : α) : ∀ (n : Nat) (s : Bs), s.length = n → s ≠ [] → ∀ f : F α, f.WF → (putF z had f s v).WF := by
  intro n
  induction n using Nat.strongRecOn with
  | _ n ih =>
    intro s hn hs f
    induction f with
    | nil => intro _; rw [putF]; exact ⟨hs, fun n j h => by simp [F.nth] at h, trivial, trivial⟩
    | cons e i w m k r _ ihr =>
      rintro ⟨h1, h2, h3, h4⟩
      rw [putF]
      split
      · rename_i hlt
        refine ⟨h1, fun n j h => ?_, h3, ihr h4⟩
        rcases putF_nth z had r s v hs j n h with e1 | ⟨m', i', e1, e2⟩
        · omega
        · have := h2 m' i' e1; omega
      · rename_i hge
        split
        · rename_i hne
          refine ⟨hs, fun n j h => ?_, trivial, h1, h2, h3, h4⟩
          cases j with
          | zero => simp only [F.nth] at h; cases h; dsimp only; omega
          | succ j => have := h2 n j h; omega
        · rename_i hne
          have heq : hd e = hd s := Classical.byContradiction hne
          have hc := com_pos h1 hs heq
          have hcl := com_le e s
          rw [dif_pos hc]
          have ht : e.take (com e s) ≠ [] := List.length_pos_iff.1 (by rw [List.length_take]; have := List.length_pos_iff.2 h1; omega)
          have hht : hd (e.take (com e s)) = hd e := by
            cases e with
            | nil => exact absurd rfl h1
            | cons y e =>
              cases hc2 : com (y :: e) s with
              | zero => omega
              | succ c => rfl
          split
          · rename_i hlt
            have he' : e.drop (com e s) ≠ [] := List.length_pos_iff.1 (by rw [List.length_drop]; omega)
            have hW : (F.cons (e.drop (com e s)) i w m k F.nil).WF := ⟨he', fun n j h => by simp [F.nth] at h, h3, trivial⟩
            split
            · exact ⟨ht, fun n j h => by rw [hht]; exact h2 n j h, hW, h4⟩
            · rename_i h0
              exact ⟨ht, fun n j h => by rw [hht]; exact h2 n j h, ih _ (by rw [List.length_drop]; omega) _ rfl h0 _ hW, h4⟩
          · split
            · exact ⟨h1, h2, h3, h4⟩
            · rename_i h0
              exact ⟨h1, h2, ih _ (by rw [List.length_drop]; omega) _ rfl h0 _ h3, h4⟩
/-- Entries rise. -/
theorem F.rise : {f : F α} → f.WF → Rise f.ents
  | .nil, _ => List.Pairwise.nil
  | .cons e i v m k r, ⟨h1, h2, h3, h4⟩ => by
      have hk := F.rise h3
      have hr := F.rise h4
      have hR := F.rest_lt h1 h2 h4.ord
      have hin : Rise (own i v ++ k.ents) := by
        unfold Rise
        rw [List.pairwise_append]
        refine ⟨?_, hk, fun a ha b hb => ?_⟩
        · unfold own; split <;> simp
        · exact own_lt (F.ents_hd h3.ord b hb).1 a ha
      unfold Rise F.ents
      rw [List.pairwise_append]
      refine ⟨?_, hr, fun a ha b hb => ?_⟩
      · unfold pre
        rw [List.pairwise_map]
        exact hin.imp fun {a b} h => by rw [ltB_pre]; exact h
      · obtain ⟨a1, a2⟩ := pre_hd h1 ha
        exact ltB_hd a1 (hR b hb).1 (by have := (hR b hb).2; omega)
theorem lput_len (l : Ents α) (k : Bs) (v : α) (h : Rise l) : (lput l k v).length = l.length + if (lget l k).isSome then 0 else 1 := by
  induction l with
  | nil => rfl
  | cons q l ih =>
    obtain ⟨x, u⟩ := q
    have h2 := List.pairwise_cons.1 h
    rw [lput, lget]
    split
    · rename_i hlt
      have hne : ¬ x = k := fun e => by rw [e, ltB_irr] at hlt; cases hlt
      rw [List.length_cons, ih h2.2, if_neg hne, List.length_cons]; omega
    · split
      · rename_i he
        simp
      · rename_i hlt he
        have : lget l k = none := lget_none fun q hq e => by
          have a := h2.1 q hq
          rw [e] at a
          exact hlt a
        rw [this]; simp
/-- How many keys there are is kept, if 'had' says whether the key was there. -/
theorem putF_many (z : α) (v : α) : ∀ (n : Nat) (s : Bs), s.length = n → s ≠ [] → ∀ f : F α, f.WF → f.Many → (putF z (lget f.ents s).isSome f s v).Many := by
  intro n
  induction n using Nat.strongRecOn with
  | _ n ih =>
    intro s hn hs f
    induction f with
    | nil => intro _ _; rw [putF]; exact ⟨by simp [own, F.ents], trivial, trivial⟩
    | cons e i w m k r _ ihr =>
      rintro ⟨h1, h2, h3, h4⟩ ⟨m1, m2, m3⟩
      have hA : ∀ q ∈ pre e (own i w ++ k.ents), q.1 ≠ [] ∧ hd q.1 = hd e := fun q hq => pre_hd h1 hq
      have hR := F.rest_lt h1 h2 h4.ord
      have hel : (lget (F.cons e i w m k r).ents s) = (lget (pre e (own i w ++ k.ents)) s).or (lget r.ents s) := by rw [F.ents, lget_append]
      rw [putF]
      split
      · rename_i hlt
        have : lget (pre e (own i w ++ k.ents)) s = none := lget_none fun q hq e2 => by have := (hA q hq).2; rw [e2] at this; omega
        rw [hel, this]
        exact ⟨m1, m2, ihr h4 m3⟩
      · rename_i hge
        split
        · exact ⟨by simp [own, F.ents], trivial, m1, m2, m3⟩
        · rename_i hne
          have heq : hd e = hd s := Classical.byContradiction hne
          have hc := com_pos h1 hs heq
          have hcl := com_le e s
          rw [dif_pos hc]
          have hrn : lget r.ents s = none := lget_none fun q hq e2 => by have := (hR q hq).2; rw [e2] at this; omega
          have hsp : s = e.take (com e s) ++ s.drop (com e s) := take_drop_com e s
          rw [hel, hrn, Option.or_none]
          split
          · rename_i hlt
            have he' : e.drop (com e s) ≠ [] := List.length_pos_iff.1 (by rw [List.length_drop]; omega)
            have hW : (F.cons (e.drop (com e s)) i w m k F.nil).WF := ⟨he', fun n j h => by simp [F.nth] at h, h3, trivial⟩
            have hM : (F.cons (e.drop (com e s)) i w m k F.nil).Many := ⟨m1, m2, trivial⟩
            have hep : e = e.take (com e s) ++ e.drop (com e s) := (List.take_append_drop _ _).symm
            have hno : lget (pre e (own i w ++ k.ents)) s = lget (F.cons (e.drop (com e s)) i w m k F.nil).ents (s.drop (com e s)) := by
              have : pre e (own i w ++ k.ents) = pre (e.take (com e s)) (F.cons (e.drop (com e s)) i w m k F.nil).ents := by
                rw [F.ents, F.ents, List.append_nil, pre_pre, ← hep]
              rw [this]; exact lget_pre' hsp
            split
            · exact ⟨by simp [F.ents, own, pre, m1], hM, m3⟩
            · rename_i h0
              have hlen := lput_len (F.cons (e.drop (com e s)) i w m k F.nil).ents (s.drop (com e s)) v (F.rise hW)
              have hen := putF_ents z (lget (pre e (own i w ++ k.ents)) s).isSome v _ (s.drop (com e s)) rfl h0 _ hW
              have hnone : lget (pre e (own i w ++ k.ents)) s = none := by
                rw [hno, F.ents, F.ents, List.append_nil]
                refine lget_none fun q hq e2 => ?_
                have a := (pre_hd he' hq).2
                rw [e2] at a
                have hls : com e s < s.length := by
                  have := List.length_pos_iff.2 h0
                  rw [List.length_drop] at this; omega
                exact hd_drop_ne hlt hls a
              refine ⟨?_, ?_, m3⟩
              · rw [hen, List.length_append, hlen, ← hno, hnone]
                simp [F.ents, own, pre, m1]
              · have := ih _ (by rw [List.length_drop]; omega) _ rfl h0 _ hW hM
                rw [← hno] at this; exact this
          · rename_i hge2
            have hele : e.take (com e s) = e := List.take_of_length_le (by omega)
            rw [hele] at hsp
            have hno : lget (pre e (own i w ++ k.ents)) s = lget (own i w ++ k.ents) (s.drop (com e s)) := by
              conv => lhs; rw [hsp]
              rw [lget_pre]
            split
            · rename_i h0
              refine ⟨?_, m2, m3⟩
              rw [hno, h0]
              cases i with
              | true => simp [own, lget, m1]
              | false =>
                have : lget k.ents [] = none := lget_none fun q hq e2 => (F.ents_hd h3.ord q hq).1 e2
                simp [own, this, m1]
            · rename_i h0
              have hno2 : lget (own i w ++ k.ents) (s.drop (com e s)) = lget k.ents (s.drop (com e s)) := by
                rw [lget_append, lget_none, Option.none_or]
                intro q hq e2
                have := own_lt h0 q hq
                rw [e2, ltB_irr] at this; cases this
              have hlen := lput_len k.ents (s.drop (com e s)) v (F.rise h3)
              have hen := putF_ents z (lget k.ents (s.drop (com e s))).isSome v _ (s.drop (com e s)) rfl h0 _ h3
              rw [hno, hno2]
              refine ⟨?_, ih _ (by rw [List.length_drop]; omega) _ rfl h0 _ h3 m2, m3⟩
              rw [List.length_append, hen, hlen, m1, List.length_append]
              split <;> omega
end Go.Proofs.Ytkpfendodmfeoaa
