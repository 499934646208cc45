import Derived.Test.YtkpfendodmfeoaaTw6
namespace Go.Proofs.Ytkpfendodmfeoaa
set_option linter.unusedVariables false
set_option linter.unusedSimpArgs false
open Go.RowKit
theorem insertIdx_eq {β : Type} : (xs : List β) → (i : Nat) → (u : β) → i ≤ xs.length → xs.insertIdx i u = xs.take i ++ u :: xs.drop i
  | xs, 0, u, _ => by simp
  | [], i + 1, u, h => by simp at h
  | x :: xs, i + 1, u, h => by rw [List.insertIdx_succ_cons, insertIdx_eq xs i u (by simpa using h)]; simp
/-- slices.Insert of one node. -/
theorem Insert_calls (w : World) (sv : Value) (n : Nat) (ps : List Nat) (hk : Kids w sv n ps) (i : Nat) (hi : i ≤ n) (vb b : Nat)
    (hv : w.heap[vb]? = some (.cells #[ptr b] 54 (0, 0))) (hvg : sv.ownBlock ≠ some vb) (hn : n ≤ 4294967296) :
    Calls Try.prog 32 #[sv, .int .i64 i, .slice (some ⟨vb, 0, none⟩) 1 1] w fun e w' => ∃ sv', e = .returned sv' ∧
      Kids w' sv' (n + 1) (ps.insertIdx i b) ∧ w.grownBy w' sv.ownBlock ∧ (sv'.ownBlock = sv.ownBlock ∨ ∃ g, sv'.ownBlock = some g ∧ w.heap.size ≤ g) := by
  have hlen : ps.length = n := by have := hk.1; simpa using this
  have hmap : (ps.insertIdx i b).map ptr = (ps.map ptr).take i ++ ptr b :: (ps.map ptr).drop i := by
    rw [insertIdx_eq ps i b (by omega)]; simp
  unfold Kids
  rw [hmap]
  by_cases he : i = n
  · subst he
    obtain ⟨A, c, rfl, _⟩ := hk.rd
    refine (ins_end w 0 A i c _ hk (Nat.zero_le _) vb (ptr b) hv rfl hn).mono ?_
    rintro e w' ⟨A', c', rfl, h1, h2, h3⟩
    refine ⟨_, rfl, ?_, h2, h3⟩
    have e1 : (ps.map ptr).take i = ps.map ptr := List.take_of_length_le (by simp; omega)
    have e2 : (ps.map ptr).drop i = [] := List.drop_of_length_le (by simp; omega)
    rw [e1, e2]; exact h1
  · have h1x : ∀ x ∈ ps.map ptr, x.oneCell' = true := fun x hx => by
      obtain ⟨a, _, rfl⟩ := List.mem_map.1 hx; rfl
    rcases hk.2 with ⟨rfl, h0⟩ | ⟨g, off, cap, cur, rfl, hb, hg, hnc, hcm, hcs, ht⟩
    · omega
    · have hvg' : vb ≠ g := fun e => hvg (by simp [Value.ownBlock, e])
      by_cases hroom : n + 1 ≤ cap
      · refine (ins_shift w 0 g off n cap i cur _ (by simp [hlen]) hb hg hcm hcs ht (by omega) hroom vb (ptr b) hv rfl h1x hvg' hn).mono ?_
        rintro e w' ⟨rfl, h1, h2⟩
        exact ⟨_, rfl, h1, h2, .inl rfl⟩
      · refine (ins_grow w 0 g off n cap i _ (by simp [hlen]) (fun j v hj => ?_) (lt_of_heap hg) (Nat.zero_le _) (by omega) hnc (by omega) vb (ptr b) hv rfl h1x hn).mono ?_
        · rw [cell_of_row w g _ cur _ (0, 0) hg]
          rw [← ht, Nat.mul_one, List.getElem?_take] at hj
          split at hj
          · rw [List.getElem?_drop] at hj; simpa using hj
          · cases hj
        · rintro e w' ⟨c', rfl, h1, h2⟩
          refine ⟨_, rfl, h1, ⟨h2.os, h2.tape, h2.output, h2.size, fun k hk _ => h2.block k hk⟩, .inr ⟨_, rfl, Nat.le_refl _⟩⟩
/-! One step of a put, in plain Lean. -/
def δ (had : Bool) (m : Nat) : Nat := if had then m else m + 1
/-- The node below, as the walk makes it: split, if it is to be. -/
def cutN (y : Nd V) (s : Bs) : Nd V := if com y.edge s < y.edge.length then splitN y (com y.edge s) else y
theorem putF_no {had : Bool} (hh : had = false) : {f : F V} → {s : Bs} → {v : V} → f.Ord → f.has (hd s) = false → putF zeroV had f s v = f.ins (f.idx (hd s)) ⟨s, true, v, 1, .nil⟩
  | .nil, s, v, _, _ => by rw [putF]; rfl
  | .cons e i w m k r, s, v, ⟨h1, h2, h3⟩, h => by
      unfold F.has at h
      rw [putF]
      unfold F.idx
      split
      · rename_i hlt
        rw [if_pos hlt] at h
        rw [putF_no hh h3 h]; rfl
      · rename_i hge
        rw [if_neg hge] at h
        rw [if_pos (of_decide_eq_false h)]
        cases r <;> rfl
theorem putF_yes {had : Bool} : {f : F V} → {s : Bs} → {v : V} → {y : Nd V} → s ≠ [] → y.edge ≠ [] → f.nth (f.idx (hd s)) = some y → hd y.edge = hd s → (com y.edge s < y.edge.length → had = false) →
    putF zeroV had f s v = f.set (f.idx (hd s)) (putN zeroV had (cutN y s) (s.drop (com y.edge s)) v)
  | .nil, _, _, _, _, _, h, _, _ => by simp [F.nth] at h
  | .cons e i w m k r, s, v, y, hs, he, h, hy, hsp => by
      unfold F.idx at h ⊢
      rw [putF]
      split
      · rename_i hlt
        rw [if_pos hlt] at h
        rw [putF_yes (f := r) hs he h hy hsp]; rfl
      · rename_i hge
        rw [if_neg hge] at h
        simp only [F.nth] at h
        cases h
        dsimp only at hy he hsp ⊢
        rw [if_neg (by simpa using hy)]
        have hc := com_pos he hs hy
        rw [dif_pos hc]
        unfold cutN
        dsimp only
        split
        · rename_i hlt
          have hf := hsp hlt
          subst hf
          split
          · rename_i h0
            rw [h0]; rfl
          · rename_i h0
            unfold putN splitN
            rw [if_neg h0]; rfl
        · split
          · rename_i h0
            rw [h0]; rfl
          · rename_i h0
            unfold putN
            rw [if_neg h0]; rfl
theorem lget_kid : {f : F V} → {s : Bs} → {y : Nd V} → f.WF → s ≠ [] → f.nth (f.idx (hd s)) = some y → hd y.edge = hd s → lget f.ents s = lget (pre y.edge y.ents) s
  | .nil, _, _, _, _, h, _ => by simp [F.nth] at h
  | .cons e i w m k r, s, y, ⟨h1, h2, h3, h4⟩, hs, h, hy => by
      unfold F.idx at h
      rw [F.ents, lget_append]
      by_cases hlt : hd e < hd s
      · rw [if_pos hlt] at h
        have : lget (pre e (own i w ++ k.ents)) s = none := lget_none fun q hq e2 => by have := (pre_hd h1 hq).2; rw [e2] at this; omega
        rw [this, Option.none_or, lget_kid (f := r) h4 hs h hy]
      · rw [if_neg hlt] at h
        simp only [F.nth] at h
        cases h
        have hR := F.rest_lt h1 h2 h4.ord
        have : lget r.ents s = none := lget_none fun q hq e2 => by have := (hR q hq).2; rw [e2] at this; dsimp only at hy; omega
        rw [this, Option.or_none]; rfl
theorem cutN_ents (y : Nd V) (s : Bs) : pre (y.edge.take (com y.edge s)) (cutN y s).ents = pre y.edge y.ents := by
  unfold cutN
  split
  · have hep : y.edge = y.edge.take (com y.edge s) ++ y.edge.drop (com y.edge s) := (List.take_append_drop _ _).symm
    show pre (y.edge.take (com y.edge s)) (own false zeroV ++ (pre (y.edge.drop (com y.edge s)) (own y.is y.v ++ y.kids.ents) ++ [])) = _
    rw [List.append_nil]
    show pre _ (pre _ _) = _
    rw [pre_pre, ← hep]; rfl
  · rw [List.take_of_length_le (by omega)]
theorem lget_step {x y : Nd V} {s : Bs} (hW : x.kids.WF) (hs : s ≠ []) (hy : x.kids.nth (x.kids.idx (hd s)) = some y) (hh : hd y.edge = hd s) : lget x.ents s = lget (cutN y s).ents (s.drop (com y.edge s)) := by
  rw [Nd.ents, lget_own hs, lget_kid hW hs hy hh, ← cutN_ents y s]
  exact lget_pre' (take_drop_com _ _)
theorem lget_cut {x y : Nd V} {s : Bs} (hW : x.kids.WF) (hs : s ≠ []) (hy : x.kids.nth (x.kids.idx (hd s)) = some y) (hh : hd y.edge = hd s) (hc : com y.edge s < y.edge.length) : lget x.ents s = none := by
  rw [lget_step hW hs hy hh]
  have he' : y.edge.drop (com y.edge s) ≠ [] := List.length_pos_iff.1 (by rw [List.length_drop]; omega)
  unfold cutN
  rw [if_pos hc]
  show lget (own false zeroV ++ (pre (y.edge.drop (com y.edge s)) (own y.is y.v ++ y.kids.ents) ++ [])) (s.drop (com y.edge s)) = none
  rw [List.append_nil]
  refine lget_none fun q hq e => ?_
  have hq2 : q ∈ pre (y.edge.drop (com y.edge s)) (own y.is y.v ++ y.kids.ents) := hq
  obtain ⟨a, b⟩ := pre_hd he' hq2
  rw [e] at a b
  have hls : com y.edge s < s.length := by
    have := List.length_pos_iff.2 a
    rw [List.length_drop] at this; omega
  exact hd_drop_ne hc hls b
theorem lget_no {x : Nd V} {s : Bs} (hW : x.kids.WF) (hs : s ≠ []) (hh : x.kids.has (hd s) = false) : lget x.ents s = none := by
  rw [Nd.ents, lget_own hs]
  refine lget_none fun q hq e => ?_
  obtain ⟨a, n, j, b, c⟩ := F.ents_hd hW.ord q hq
  rw [e] at c
  -- the node whose edge begins so would be found
  have h1 : ¬ j < x.kids.idx (hd s) := fun h => by have := (F.idx_lt (c := hd s) hW.ord b).1 h; omega
  have h2 : x.kids.has (hd s) = true := F.has_of hW.ord b c.symm
  rw [hh] at h2; cases h2
end Go.Proofs.Ytkpfendodmfeoaa
