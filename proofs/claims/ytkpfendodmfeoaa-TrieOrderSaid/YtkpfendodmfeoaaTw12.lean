import Derived.Test.YtkpfendodmfeoaaTw11
namespace Go.Proofs.Ytkpfendodmfeoaa
set_option linter.unusedVariables false
set_option linter.unusedSimpArgs false
open Go.RowKit
/-! A drop, one step, in plain Lean. -/
theorem F.set_set {β : Type} : (f : F β) → (j : Nat) → (x y : Nd β) → (f.set j x).set j y = f.set j y
  | .nil, _, _, _ => rfl
  | .cons _ _ _ _ _ _, 0, _, _ => rfl
  | .cons _ _ _ _ _ r, j + 1, x, y => by simp [F.set, F.set_set r j x y]
theorem F.set_del {β : Type} : (f : F β) → (j : Nat) → (x : Nd β) → (f.set j x).del j = f.del j
  | .nil, _, _ => rfl
  | .cons _ _ _ _ _ _, 0, _ => rfl
  | .cons _ _ _ _ _ r, j + 1, x => by simp [F.set, F.del, F.set_del r j x]
theorem F.set_nth {β : Type} : (f : F β) → (j : Nat) → (x y : Nd β) → f.nth j = some y → (f.set j x).nth j = some x
  | .nil, _, _, _, h => by simp [F.nth] at h
  | .cons _ _ _ _ _ _, 0, _, _, _ => rfl
  | .cons _ _ _ _ _ r, j + 1, x, y, h => F.set_nth r j x y h
/-- A node's row once what is at a place has become what it has become. -/
def backF (f : F V) (j : Nat) (y : Nd V) : F V :=
  if y.many = 0 then f.del j
  else match y.is, y.kids with
    | false, .cons e2 i2 w2 m2 k2 .nil => f.set j ⟨y.edge ++ e2, i2, w2, m2, k2⟩
    | _, _ => f.set j y
theorem shut_back (e : Bs) (i : Bool) (w : V) (m : Nat) (k r : F V) (y : Nd V) (hy : y.edge = e) : shut e y r = backF (.cons e i w m k r) 0 y := by
  obtain ⟨ye, yi, yv, ym, yk⟩ := y
  subst hy
  unfold shut backF
  split
  · rfl
  · cases yi with
    | true => rfl
    | false =>
      cases yk with
      | nil => rfl
      | cons e2 i2 w2 m2 k2 r2 => cases r2 <;> rfl
theorem backF_succ (e : Bs) (i : Bool) (w : V) (m : Nat) (k r : F V) (j : Nat) (y : Nd V) : backF (.cons e i w m k r) (j + 1) y = .cons e i w m k (backF r j y) := by
  obtain ⟨ye, yi, yv, ym, yk⟩ := y
  unfold backF
  split
  · rfl
  · cases yi with
    | true => rfl
    | false =>
      cases yk with
      | nil => rfl
      | cons e2 i2 w2 m2 k2 r2 => cases r2 <;> rfl
theorem dropF_yes : {f : F V} → {s : Bs} → {y : Nd V} → y.edge ≠ [] → y.edge.length ≤ s.length → f.nth (f.idx (hd s)) = some y → hd y.edge = hd s →
    dropF zeroV f s = backF f (f.idx (hd s)) (dropN zeroV y (s.drop y.edge.length))
  | .nil, _, _, _, _, h, _ => by simp [F.nth] at h
  | .cons e i w m k r, s, y, he, hl, h, hy => by
      unfold F.idx at h ⊢
      rw [dropF]
      split
      · rename_i hlt
        rw [if_pos hlt] at h
        rw [dropF_yes (f := r) he hl h hy, backF_succ]
      · rename_i hge
        rw [if_neg hge] at h
        simp only [F.nth] at h
        cases h
        rw [dif_pos ⟨List.length_pos_iff.2 he, hl⟩]
        unfold dropN
        dsimp only
        split
        · exact shut_back e i w m k r _ rfl
        · exact shut_back e i w m k r _ rfl
theorem drop_down {n : Nd V} {s : Bs} {u : V} (hW : n.kids.WF) (hs : s ≠ []) (hg : lget n.ents s = some u) :
    n.kids.has (hd s) = true ∧ ∃ y, n.kids.nth (n.kids.idx (hd s)) = some y ∧ hd y.edge = hd s ∧ y.edge.length ≤ s.length ∧ lget y.ents (s.drop y.edge.length) = some u := by
  have hhas : n.kids.has (hd s) = true := by
    cases h : n.kids.has (hd s) with
    | true => rfl
    | false => rw [lget_no hW hs h] at hg; cases hg
  obtain ⟨y, hy, hyh⟩ := F.has_nth hhas
  have hc : ¬ com y.edge s < y.edge.length := fun hc => by rw [lget_cut hW hs hy hyh hc] at hg; cases hg
  have hcl := com_le y.edge s
  have he : com y.edge s = y.edge.length := by omega
  rw [lget_step hW hs hy hyh] at hg
  unfold cutN at hg
  rw [if_neg hc, he] at hg
  exact ⟨hhas, y, hy, hyh, by omega, hg⟩
/-! A node, one of those below it, and the others. -/
theorem kids_set {w : World} {g off n c : Nat} {qs : List Nat} (hk : Kids w (.slice (some ⟨g, off, none⟩) n c) n qs) {j : Nat} (hj : j < n) (a : Nat) :
    Kids (w.setCell ⟨g, off + j, none⟩ (ptr a)) (.slice (some ⟨g, off, none⟩) n c) n (qs.set j a) := by
  rcases hk.2 with ⟨hv, h0⟩ | ⟨g', off', cap, cur, hv, hb, hg, hnc, hcm, hcs, ht⟩
  · cases hv
  · cases hv
    rw [Nat.mul_one] at hcs ht
    refine ⟨by have := hk.1; simpa using this, .inr ⟨g, off, c, cur.setIfInBounds (off + j) (ptr a), rfl, hb, heap_setCell_same w g (off + j) cur _ _ hg, hnc, hcm, by simp; omega, ?_⟩⟩
    rw [Nat.mul_one, Array.toList_setIfInBounds, List.drop_set, if_neg (by omega), Nat.add_sub_cancel_left, List.take_set, ht, List.map_set]
structure Parts (w : World) (n : Nd V) (a : Nat) (fb : List Nat) (j : Nat) (y : Nd V) (g off cap a2 : Nat) (qs f2 fo : List Nat) : Prop where
  nd : NdAt w a n.edge n.is (encV n.v) n.many (.slice (some ⟨g, off, none⟩) n.kids.len cap)
  row : Kids w (.slice (some ⟨g, off, none⟩) n.kids.len cap) n.kids.len qs
  at_ : qs[j]? = some a2
  kid : RepN encV w y a2 f2
  nth : n.kids.nth j = some y
  perm : fb.Perm (a :: g :: (f2 ++ fo))
  all : RepF encV w n.kids qs (f2 ++ fo)
  set : ∀ (w' : World) (x' : Nd V) (a' : Nat) (fa' : List Nat), (∀ b ∈ fo, w'.heap[b]? = w.heap[b]?) → RepN encV w' x' a' fa' → RepF encV w' (n.kids.set j x') (qs.set j a') (fa' ++ fo)
  del : ∀ (w' : World), (∀ b ∈ fo, w'.heap[b]? = w.heap[b]?) → RepF encV w' (n.kids.del j) (qs.eraseIdx j) fo
theorem Parts.of {w : World} {n : Nd V} {a : Nat} {fb : List Nat} (h : RepN encV w n a fb) {j : Nat} {y : Nd V} (hy : n.kids.nth j = some y) : ∃ g off cap a2 qs f2 fo, Parts w n a fb j y g off cap a2 qs f2 fo := by
  obtain ⟨sv, qs, fk, h1, h2, h3, h4⟩ := h
  obtain ⟨a2, f2, fo, k1, k2, k3, k4, k5⟩ := h3.nth hy
  obtain ⟨A, cap, rfl, _, _, hrd, _⟩ := h2.rd
  obtain ⟨g, off, rfl, hc⟩ := hrd j (ptr a2) (by rw [List.getElem?_map, k1]; rfl)
  exact ⟨g, off, cap, a2, qs, f2, fo, h1, h2, k1, k2, hy, h4.trans ((k3.cons g).cons a), h3.perm k3.symm, k4, k5⟩
theorem Parts.nodup {w : World} {n : Nd V} {a : Nat} {fb : List Nat} {j : Nat} {y : Nd V} {g off cap a2 : Nat} {qs f2 fo : List Nat} (P : Parts w n a fb j y g off cap a2 qs f2 fo) (hnd : fb.Nodup) :
    a ≠ g ∧ a ∉ f2 ∧ a ∉ fo ∧ g ∉ f2 ∧ g ∉ fo ∧ f2.Nodup ∧ fo.Nodup ∧ (∀ b ∈ f2, b ∉ fo) ∧ a < w.heap.size ∧ g < w.heap.size ∧ (∀ b ∈ fo, b < w.heap.size) ∧ (∀ b ∈ f2, b < w.heap.size) ∧ j < n.kids.len := by
  have h := P.perm.nodup_iff.1 hnd
  rw [List.nodup_cons, List.nodup_cons, List.nodup_append] at h
  obtain ⟨h1, h2, h3, h4, h5⟩ := h
  simp only [List.mem_cons, List.mem_append, not_or] at h1 h2
  exact ⟨h1.1, h1.2.1, h1.2.2, h2.1, h2.2, h3, h4, fun b hb hm => h5 b hb b hm rfl, P.nd.lt, (Row.lt P.row g rfl).2, fun b hb => P.all.lt b (List.mem_append_right _ hb), fun b hb => P.all.lt b (List.mem_append_left _ hb), F.nth_lt P.nth⟩
theorem Parts.rep {w : World} {n : Nd V} {a : Nat} {fb : List Nat} {j : Nat} {y : Nd V} {g off cap a2 : Nat} {qs f2 fo : List Nat} (P : Parts w n a fb j y g off cap a2 qs f2 fo) : RepN encV w n a fb :=
  ⟨_, qs, f2 ++ fo, P.nd, P.row, P.all, P.perm⟩
theorem set_at {β : Type} {qs : List β} {j : Nat} {a : β} (h : qs[j]? = some a) : qs.set j a = qs := by
  apply List.ext_getElem?
  intro k
  rw [List.getElem?_set]
  split
  · rename_i e
    subst e
    split
    · exact h.symm
    · rename_i hlt
      rw [List.getElem?_eq_none (by omega)]
  · rfl
theorem foot_nodup {a g : Nat} {fx fo f2 : List Nat} {N : Nat} (h1 : a ≠ g) (h2 : a ∉ f2) (h3 : a ∉ fo) (h4 : g ∉ f2) (h5 : g ∉ fo) (h6 : fo.Nodup) (h7 : ∀ b ∈ f2, b ∉ fo) (ha : a < N) (hg : g < N) (ho : ∀ b ∈ fo, b < N) (hn : fx.Nodup)
    (hs : ∀ b ∈ fx, b ∈ f2 ∨ N ≤ b) : (a :: g :: (fx ++ fo)).Nodup := by
  have k1 : a ∉ fx := fun hm => by
    rcases hs a hm with h | h
    · exact h2 h
    · omega
  have k2 : g ∉ fx := fun hm => by
    rcases hs g hm with h | h
    · exact h4 h
    · omega
  refine List.nodup_cons.2 ⟨by simp [h1, k1, h3], List.nodup_cons.2 ⟨by simp [k2, h5], List.nodup_append.2 ⟨hn, h6, fun x hx z hz e => ?_⟩⟩⟩
  subst e
  rcases hs x hx with h | h
  · exact h7 x h hz
  · have := ho x hz; omega
theorem Parts.step {w : World} {n : Nd V} {a : Nat} {fb : List Nat} {j : Nat} {y : Nd V} {g off cap a2 : Nat} {qs f2 fo : List Nat} (P : Parts w n a fb j y g off cap a2 qs f2 fo) (hnd : fb.Nodup)
    {w' : World} {y' : Nd V} {f2' : List Nat} (hr : RepN encV w' y' a2 f2') (hn2 : f2'.Nodup) (hs : ∀ b ∈ f2', b ∈ f2 ∨ w.heap.size ≤ b) (hf : Fr (fun b => b ∈ f2) w w') :
    Parts w' ⟨n.edge, n.is, n.v, n.many, n.kids.set j y'⟩ a (a :: g :: (f2' ++ fo)) j y' g off cap a2 qs f2' fo ∧ (a :: g :: (f2' ++ fo)).Nodup ∧ ∀ b ∈ a :: g :: (f2' ++ fo), b ∈ fb ∨ w.heap.size ≤ b := by
  obtain ⟨h1, h2, h3, h4, h5, h6, h7, h8, h9, h10, h11, h12, h13⟩ := P.nodup hnd
  have keep : ∀ b, b < w.heap.size → b ∉ f2 → w'.heap[b]? = w.heap[b]? := fun b hb hn => hf.block b hb hn
  have ko : ∀ b ∈ fo, w'.heap[b]? = w.heap[b]? := fun b hb => keep b (h11 b hb) fun hm => h8 b hm hb
  have hset := P.set w' y' a2 f2' ko hr
  rw [set_at P.at_] at hset
  refine ⟨⟨?_, ?_, P.at_, hr, F.set_nth _ _ _ _ P.nth, List.Perm.refl _, hset, fun w'' x' a' fa' hm hx => ?_, fun w'' hm => ?_⟩, foot_nodup h1 h2 h3 h4 h5 h7 h8 h9 h10 h11 hn2 hs, fun b hb => ?_⟩
  · show NdAt w' a n.edge n.is (encV n.v) n.many (.slice (some ⟨g, off, none⟩) (n.kids.set j y').len cap)
    rw [F.set_len]
    exact (keep a h9 h2).trans P.nd
  · show Kids w' (.slice (some ⟨g, off, none⟩) (n.kids.set j y').len cap) (n.kids.set j y').len qs
    rw [F.set_len]
    exact Row.at_ P.row fun k hk => by cases hk; exact keep g h10 h4
  · show RepF encV w'' ((n.kids.set j y').set j x') _ _
    rw [F.set_set]
    exact P.set w'' x' a' fa' (fun b hb => (hm b hb).trans (ko b hb)) hx
  · show RepF encV w'' ((n.kids.set j y').del j) _ _
    rw [F.set_del]
    exact P.del w'' fun b hb => (hm b hb).trans (ko b hb)
  · rcases List.mem_cons.1 hb with e | hb
    · exact .inl (P.perm.mem_iff.2 (by rw [e]; simp))
    · rcases List.mem_cons.1 hb with e | hb
      · exact .inl (P.perm.mem_iff.2 (by rw [e]; simp))
      · rcases List.mem_append.1 hb with h | h
        · rcases hs b h with k | k
          · exact .inl (P.perm.mem_iff.2 (by simp [k]))
          · exact .inr k
        · exact .inl (P.perm.mem_iff.2 (by simp [h]))
theorem Parts.swap {w : World} {n : Nd V} {a : Nat} {fb : List Nat} {j : Nat} {y : Nd V} {g off cap a2 : Nat} {qs f2 fo : List Nat} (P : Parts w n a fb j y g off cap a2 qs f2 fo) (hnd : fb.Nodup)
    {w1 : World} (hold : ∀ b, b < w.heap.size → w1.heap[b]? = w.heap[b]?) {x' : Nd V} {a' : Nat} {fx : List Nat} (hr : RepN encV w1 x' a' fx) (hn : fx.Nodup) (hs : ∀ b ∈ fx, b ∈ f2 ∨ w.heap.size ≤ b) :
    ∃ fb', RepN encV (w1.setCell ⟨g, off + j, none⟩ (ptr a')) ⟨n.edge, n.is, n.v, n.many, n.kids.set j x'⟩ a fb' ∧ fb'.Nodup ∧ ∀ b ∈ fb', b ∈ fb ∨ w.heap.size ≤ b := by
  obtain ⟨h1, h2, h3, h4, h5, h6, h7, h8, h9, h10, h11, h12, h13⟩ := P.nodup hnd
  have hset : ∀ b, b ≠ g → (w1.setCell ⟨g, off + j, none⟩ (ptr a')).heap[b]? = w1.heap[b]? := fun b hb => Below.heap_setCell _ _ _ _ hb
  have kg : g ∉ fx := fun hm => by
    rcases hs g hm with h | h
    · exact h4 h
    · omega
  have hr' := hr.move (w' := w1.setCell ⟨g, off + j, none⟩ (ptr a')) fun b hb => hset b fun e => kg (by rw [← e]; exact hb)
  refine ⟨a :: g :: (fx ++ fo), ⟨.slice (some ⟨g, off, none⟩) n.kids.len cap, qs.set j a', fx ++ fo, ?_, ?_, P.set _ x' a' fx (fun b hb => (hset b fun e => h5 (by rw [← e]; exact hb)).trans (hold b (h11 b hb))) hr', List.Perm.refl _⟩, foot_nodup h1 h2 h3 h4 h5 h7 h8 h9 h10 h11 hn hs, fun b hb => ?_⟩
  · exact (hset a h1).trans ((hold a h9).trans P.nd)
  · show Kids _ _ (n.kids.set j x').len _
    rw [F.set_len]
    exact kids_set (Row.at_ P.row fun k hk => by cases hk; exact hold g h10) h13 a'
  · rcases List.mem_cons.1 hb with e | hb
    · exact .inl (P.perm.mem_iff.2 (by rw [e]; simp))
    · rcases List.mem_cons.1 hb with e | hb
      · exact .inl (P.perm.mem_iff.2 (by rw [e]; simp))
      · rcases List.mem_append.1 hb with h | h
        · rcases hs b h with k | k
          · exact .inl (P.perm.mem_iff.2 (by simp [k]))
          · exact .inr k
        · exact .inl (P.perm.mem_iff.2 (by simp [h]))
theorem Parts.gone {w : World} {n : Nd V} {a : Nat} {fb : List Nat} {j : Nat} {y : Nd V} {g off cap a2 : Nat} {qs f2 fo : List Nat} (P : Parts w n a fb j y g off cap a2 qs f2 fo) (hnd : fb.Nodup)
    {w1 : World} {sv' : Value} (hk : Kids w1 sv' (n.kids.len - 1) (qs.eraseIdx j)) (hg : w.grownBy w1 (some g)) (hob : sv'.ownBlock = some g) :
    ∃ fb', RepN encV (w1.setCell ⟨a, 4, none⟩ sv') ⟨n.edge, n.is, n.v, n.many, n.kids.del j⟩ a fb' ∧ fb'.Nodup ∧ ∀ b ∈ fb', b ∈ fb := by
  obtain ⟨h1, h2, h3, h4, h5, h6, h7, h8, h9, h10, h11, h12, h13⟩ := P.nodup hnd
  have hset : ∀ b, b ≠ a → (w1.setCell ⟨a, 4, none⟩ sv').heap[b]? = w1.heap[b]? := fun b hb => Below.heap_setCell _ _ _ _ hb
  have hnd1 : NdAt w1 a n.edge n.is (encV n.v) n.many (.slice (some ⟨g, off, none⟩) n.kids.len cap) := (hg.block a h9 (by simpa using h1)).trans P.nd
  have hlen : (n.kids.del j).len = n.kids.len - 1 := by have := F.del_len n.kids j h13; omega
  refine ⟨a :: g :: ([] ++ fo), ⟨sv', qs.eraseIdx j, fo, ?_, ?_, P.del _ fun b hb => (hset b fun e => h3 (by rw [← e]; exact hb)).trans (hg.block b (h11 b hb) fun e => h5 (by cases e; exact hb)), ?_⟩, foot_nodup h1 h2 h3 h4 h5 h7 h8 h9 h10 h11 List.nodup_nil (by simp), fun b hb => ?_⟩
  · have := heap_setCell_same w1 a 4 _ _ sv' hnd1
    simpa [NdAt] using this
  · show Kids _ _ (n.kids.del j).len _
    rw [hlen]
    exact Row.at_ hk fun k hk2 => hset k fun e => h1 (by rw [hob] at hk2; cases hk2; exact e.symm)
  · unfold rbl; rw [hob]; exact List.Perm.refl _
  · rcases List.mem_cons.1 hb with e | hb
    · exact P.perm.mem_iff.2 (by rw [e]; simp)
    · rcases List.mem_cons.1 hb with e | hb
      · exact P.perm.mem_iff.2 (by rw [e]; simp)
      · exact P.perm.mem_iff.2 (by simp at hb; simp [hb])
end Go.Proofs.Ytkpfendodmfeoaa
