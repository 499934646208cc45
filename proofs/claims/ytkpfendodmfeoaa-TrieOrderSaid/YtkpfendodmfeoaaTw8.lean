import Derived.Test.YtkpfendodmfeoaaTw7
namespace Go.Proofs.Ytkpfendodmfeoaa
set_option linter.unusedVariables false
set_option linter.unusedSimpArgs false
open Go.RowKit
/-! A node, written. -/
theorem F.ins_nth {β : Type} : (f : F β) → (j : Nat) → (x : Nd β) → j ≤ f.len → (f.ins j x).nth j = some x
  | .nil, 0, _, _ => rfl
  | .nil, j + 1, _, h => by simp [F.len] at h
  | .cons _ _ _ _ _ _, 0, _, _ => rfl
  | .cons _ _ _ _ _ r, j + 1, x, h => F.ins_nth r j x (by simp [F.len] at h; exact h)
theorem F.ins_set {β : Type} : (f : F β) → (j : Nat) → (x y : Nd β) → j ≤ f.len → (f.ins j x).set j y = f.ins j y
  | .nil, 0, _, _, _ => rfl
  | .nil, _ + 1, _, _, h => by simp [F.len] at h
  | .cons _ _ _ _ _ _, 0, _, _, _ => rfl
  | .cons _ _ _ _ _ r, j + 1, x, y, h => by simp [F.ins, F.set, F.ins_set r j x y (by simp [F.len] at h; exact h)]
theorem RepN.nin {β : Type} {enc : β → Value} {w : World} {n : Nd β} {a : Nat} {sv : Value} {fk fa : List Nat} (h4 : fa.Perm (a :: (rbl sv ++ fk))) (hnd : fa.Nodup) : (∀ b ∈ rbl sv, b ≠ a) ∧ (∀ b ∈ fk, b ≠ a) ∧ (∀ b ∈ rbl sv, b ∉ fk) ∧ fk.Nodup := by
  have h := h4.nodup_iff.1 hnd
  rw [List.nodup_cons, List.nodup_append] at h
  obtain ⟨h1, h2, h3, h5⟩ := h
  refine ⟨fun b hb e => h1 (by rw [← e]; exact List.mem_append_left _ hb), fun b hb e => h1 (by rw [← e]; exact List.mem_append_right _ hb), fun b hb hk => h5 b hb b hk rfl, h3⟩
/-- A node's own block, written over; what is below it as it was. -/
theorem RepN.own {w w' : World} {n : Nd V} {a : Nat} {fa : List Nat} (h : RepN encV w n a fa) (hnd : fa.Nodup) (hf : Fr (fun b => b = a) w w') {e : Bs} {i : Bool} {v : V} {m : Nat}
    (hw : ∀ sv, NdAt w a n.edge n.is (encV n.v) n.many sv → NdAt w' a e i (encV v) m sv) : RepN encV w' ⟨e, i, v, m, n.kids⟩ a fa := by
  obtain ⟨sv, qs, fk, h1, h2, h3, h4⟩ := h
  obtain ⟨n1, n2, _, _⟩ := RepN.nin (n := n) (enc := encV) (w := w) h4 hnd
  exact ⟨sv, qs, fk, hw sv h1, Row.at_ h2 fun k hk => hf.block k (Row.lt h2 k hk).2 (n1 k (rbl_mem hk)), h3.move fun b hb => hf.block b (h3.lt b hb) (n2 b hb), h4⟩
theorem RepN.setMany {w : World} {n : Nd V} {a : Nat} {fa : List Nat} (h : RepN encV w n a fa) (hnd : fa.Nodup) (m : Nat) : RepN encV (w.setCell ⟨a, 3, none⟩ (n64 m)) ⟨n.edge, n.is, n.v, m, n.kids⟩ a fa :=
  h.own hnd (Fr.setCell w ⟨a, 3, none⟩ (n64 m)) fun sv h1 => by
    have := heap_setCell_same w a 3 _ _ (n64 m) h1
    simpa [NdAt] using this
theorem RepN.setEnd {w : World} {n : Nd V} {a : Nat} {fa : List Nat} (h : RepN encV w n a fa) (hnd : fa.Nodup) (b : Bool) (v : V) : RepN encV ((w.setCell ⟨a, 1, none⟩ (.bool b)).setCell ⟨a, 2, none⟩ (encV v)) ⟨n.edge, b, v, n.many, n.kids⟩ a fa :=
  h.own hnd ((Fr.setCell w ⟨a, 1, none⟩ (.bool b)).trans (Fr.setCell _ ⟨a, 2, none⟩ (encV v)) fun _ _ e => e) fun sv h1 => by
    have h2 := heap_setCell_same w a 1 _ _ (.bool b) h1
    have h3 := heap_setCell_same _ a 2 _ _ (encV v) h2
    simpa [NdAt] using h3
/-- A kid, and what is right once it is another one. -/
theorem kid_wand {w : World} {n : Nd V} {a : Nat} {fb : List Nat} (h : RepN encV w n a fb) (hnd : fb.Nodup) {j : Nat} {y : Nd V} (hy : n.kids.nth j = some y) :
    ∃ g off cap a2 f2, w.cell? ⟨a, 4, none⟩ = some (.slice (some ⟨g, off, none⟩) n.kids.len cap) ∧ w.cell? ⟨g, off + j, none⟩ = some (ptr a2) ∧ RepN encV w y a2 f2 ∧ f2.Nodup ∧ (∀ b ∈ f2, b ∈ fb) ∧ j < n.kids.len ∧
      ∀ (w' : World) (y' : Nd V) (f2' : List Nat), RepN encV w' y' a2 f2' → f2'.Nodup → (∀ b ∈ f2', b ∈ f2 ∨ w.heap.size ≤ b) → Fr (fun b => b ∈ f2) w w' →
        ∃ fb', RepN encV w' ⟨n.edge, n.is, n.v, n.many, n.kids.set j y'⟩ a fb' ∧ fb'.Nodup ∧ ∀ b ∈ fb', b ∈ fb ∨ w.heap.size ≤ b := by
  obtain ⟨sv, qs, fk, h1, h2, h3, h4⟩ := h
  obtain ⟨n1, n2, n3, n4⟩ := RepN.nin (n := n) (enc := encV) (w := w) h4 hnd
  obtain ⟨a2, f2, fo, k1, k2, k3, k4, _⟩ := h3.nth hy
  obtain ⟨A, cap, rfl, _, _, hrd, _⟩ := h2.rd
  obtain ⟨g, off, rfl, hc⟩ := hrd j (ptr a2) (by rw [List.getElem?_map, k1]; rfl)
  have hnk := k3.nodup_iff.1 n4
  rw [List.nodup_append] at hnk
  obtain ⟨m1, m2, m3⟩ := hnk
  have hfk : ∀ b ∈ f2, b ∈ fk := fun b hb => k3.mem_iff.2 (List.mem_append_left _ hb)
  have hfo : ∀ b ∈ fo, b ∈ fk := fun b hb => k3.mem_iff.2 (List.mem_append_right _ hb)
  refine ⟨g, off, cap, a2, f2, h1.cells.2.2.2.2, hc, k2, m1, fun b hb => h4.mem_iff.2 (List.mem_cons_of_mem _ (List.mem_append_right _ (hfk b hb))), F.nth_lt hy, fun w' y' f2' hr hn2 hs hf => ?_⟩
  have keep : ∀ b, b < w.heap.size → b ∉ f2 → w'.heap[b]? = w.heap[b]? := fun b hb hn => hf.block b hb hn
  have ha : a ∉ f2 := fun hm => n2 a (hfk a hm) rfl
  have hset := k4 w' y' a2 f2' (fun b hb => keep b (h3.lt b (hfo b hb)) fun hm => m3 b hm b hb rfl) hr
  have hps : qs.set j a2 = qs := by
    apply List.ext_getElem?
    intro k
    rw [List.getElem?_set]
    split
    · rename_i e
      subst e
      split
      · exact k1.symm
      · rename_i hlt
        rw [List.getElem?_eq_none (by omega)]
    · rfl
  rw [hps] at hset
  refine ⟨a :: (rbl (.slice (some ⟨g, off, none⟩) n.kids.len cap) ++ (f2' ++ fo)), ⟨_, qs, _, (keep a h1.lt ha).trans h1, ?_, hset, List.Perm.refl _⟩, ?_, ?_⟩
  · show Row w' 0 _ 1 _ (n.kids.set j y').len _
    rw [F.set_len]
    exact Row.at_ h2 fun k hk => keep k (Row.lt h2 k hk).2 fun hm => n3 k (rbl_mem hk) (hfk k hm)
  · have h5 : ∀ b ∈ f2', b ≠ a := fun b hb e => by
      rcases hs b hb with h | h
      · exact ha (by rw [← e]; exact h)
      · have := h1.lt; omega
    have h6 : ∀ b ∈ f2', b ∉ rbl (.slice (some ⟨g, off, none⟩) n.kids.len cap) := fun b hb hm => by
      rcases hs b hb with h | h
      · exact n3 b hm (hfk b h)
      · have := (Row.lt h2 b (rbl_of hm)).2; omega
    have h7 : ∀ b ∈ f2', b ∉ fo := fun b hb hm => by
      rcases hs b hb with h | h
      · exact m3 b h b hm rfl
      · have := h3.lt b (hfo b hm); omega
    refine List.nodup_cons.2 ⟨fun hm => ?_, List.nodup_append.2 ⟨?_, List.nodup_append.2 ⟨hn2, m2, fun x hx y hy e => h7 x hx (by rw [e]; exact hy)⟩, fun x hx y hy e => ?_⟩⟩
    · rcases List.mem_append.1 hm with h | h
      · exact n1 a h rfl
      · rcases List.mem_append.1 h with h | h
        · exact h5 a h rfl
        · exact n2 a (hfo a h) rfl
    · unfold rbl; split <;> simp
    · subst e
      rcases List.mem_append.1 hy with h | h
      · exact h6 x h hx
      · exact n3 x hx (hfo x h)
  · intro b hb
    rcases List.mem_cons.1 hb with e | hb
    · exact .inl (h4.mem_iff.2 (by rw [e]; exact List.mem_cons_self ..))
    · rcases List.mem_append.1 hb with h | h
      · exact .inl (h4.mem_iff.2 (List.mem_cons_of_mem _ (List.mem_append_left _ h)))
      · rcases List.mem_append.1 h with h | h
        · rcases hs b h with k | k
          · exact .inl (h4.mem_iff.2 (List.mem_cons_of_mem _ (List.mem_append_right _ (hfk b k))))
          · exact .inr k
        · exact .inl (h4.mem_iff.2 (List.mem_cons_of_mem _ (List.mem_append_right _ (hfo b h))))
/-- A kid that is put among the others. -/
theorem kid_ins {w w1 : World} {n : Nd V} {a : Nat} {fa : List Nat} {sv sv' : Value} {qs fk : List Nat} (h1 : NdAt w a n.edge n.is (encV n.v) n.many sv) (h2 : Kids w sv n.kids.len qs) (h3 : RepF encV w n.kids qs fk) (h4 : fa.Perm (a :: (rbl sv ++ fk))) (hnd : fa.Nodup)
    {j : Nat} (hj : j ≤ n.kids.len) {y : Nd V} {nb : Nat} (hnb : w.heap.size ≤ nb) (hy : RepN encV w1 y nb [nb])
    (hk : Kids w1 sv' (n.kids.len + 1) (qs.insertIdx j nb)) (hg : Fr (fun b => b ∈ rbl sv) w w1) (hob : ∀ g, sv'.ownBlock = some g → sv.ownBlock = some g ∨ (w.heap.size ≤ g ∧ g ≠ nb)) :
    ∃ fb, RepN encV (w1.setCell ⟨a, 4, none⟩ sv') ⟨n.edge, n.is, n.v, n.many, n.kids.ins j y⟩ a fb ∧ fb.Nodup ∧ ∀ b ∈ fb, b ∈ fa ∨ w.heap.size ≤ b := by
  obtain ⟨n1, n2, n3, n4⟩ := RepN.nin (n := n) (enc := encV) (w := w) h4 hnd
  have ha := h1.lt
  have haw : w1.heap[a]? = w.heap[a]? := hg.block a ha fun hm => n1 a hm rfl
  have h1' : NdAt w1 a n.edge n.is (encV n.v) n.many sv := haw.trans h1
  have h3' : RepF encV w1 n.kids qs fk := h3.move fun b hb => hg.block b (h3.lt b hb) fun hm => n3 b hm hb
  have hins := RepF.ins (j := j) hy hj h3'
  have hset : ∀ b, b ≠ a → (w1.setCell ⟨a, 4, none⟩ sv').heap[b]? = w1.heap[b]? := fun b hb => Below.heap_setCell _ _ _ _ hb
  have hna : ∀ g, sv'.ownBlock = some g → g ≠ a := fun g hg2 e => by
    rcases hob g hg2 with h | h
    · exact n1 g (rbl_mem h) e
    · omega
  have hnba : nb ≠ a := by omega
  refine ⟨a :: (rbl sv' ++ ([nb] ++ fk)), ⟨sv', qs.insertIdx j nb, [nb] ++ fk, ?_, ?_, hins.move fun b hb => hset b ?_, List.Perm.refl _⟩, ?_, ?_⟩
  · have := heap_setCell_same w1 a 4 _ _ sv' h1'
    simpa [NdAt] using this
  · show Row _ 0 _ 1 sv' (n.kids.ins j y).len _
    rw [F.ins_len]
    exact Row.at_ hk fun k hk2 => hset k (hna k hk2)
  · rcases List.mem_append.1 hb with h | h
    · rw [List.mem_singleton.1 h]; exact hnba
    · exact n2 b h
  · refine List.nodup_cons.2 ⟨fun hm => ?_, List.nodup_append.2 ⟨?_, List.nodup_append.2 ⟨by simp, n4, fun x hx y hy e => ?_⟩, fun x hx y hy e => ?_⟩⟩
    · rcases List.mem_append.1 hm with h | h
      · exact hna a (rbl_of h) rfl
      · rcases List.mem_append.1 h with h | h
        · exact hnba (List.mem_singleton.1 h).symm
        · exact n2 a h rfl
    · unfold rbl; split <;> simp
    · rw [List.mem_singleton.1 hx] at e
      have := h3.lt y hy
      omega
    · subst e
      rcases hob x (rbl_of hx) with h | h
      · rcases List.mem_append.1 hy with k | k
        · have := (Row.lt h2 x h).2
          rw [List.mem_singleton.1 k] at this
          omega
        · exact n3 x (rbl_mem h) k
      · rcases List.mem_append.1 hy with k | k
        · exact h.2 (List.mem_singleton.1 k)
        · have := h3.lt x k; omega
  · intro b hb
    rcases List.mem_cons.1 hb with e | hb
    · exact .inl (h4.mem_iff.2 (by rw [e]; exact List.mem_cons_self ..))
    · rcases List.mem_append.1 hb with h | h
      · rcases hob b (rbl_of h) with k | k
        · exact .inl (h4.mem_iff.2 (List.mem_cons_of_mem _ (List.mem_append_left _ (rbl_mem k))))
        · exact .inr k.1
      · rcases List.mem_append.1 h with h | h
        · rw [List.mem_singleton.1 h]; exact .inr hnb
        · exact .inl (h4.mem_iff.2 (List.mem_cons_of_mem _ (List.mem_append_right _ h)))
end Go.Proofs.Ytkpfendodmfeoaa
