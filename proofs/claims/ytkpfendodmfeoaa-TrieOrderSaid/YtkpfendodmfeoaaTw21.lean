import Derived.Test.YtkpfendodmfeoaaTw20
namespace Go.Proofs.Ytkpfendodmfeoaa
set_option linter.unusedVariables false
set_option linter.unusedSimpArgs false
open Go.RowKit Go.Shelf
attribute [local go_sem] Oper.semAt_some
/-! What a trie's blocks are; what a body that puts into one keeps. -/
def IsT (w : World) (b : Nat) : Prop := ∃ c T, w.heap[b]? = some (.cells c T (0, 0)) ∧ T ≠ 27 ∧ T ≠ 71
theorem row_isT {w : World} {sv : Value} {n : Nat} {qs : List Nat} (h : Kids w sv n qs) : ∀ b ∈ rbl sv, IsT w b := by
  intro b hb
  have hb := rbl_of hb
  rcases h.2 with ⟨rfl, _⟩ | ⟨g, off, cap, cur, rfl, _, hg, _⟩
  · simp [Value.ownBlock] at hb
  · obtain rfl : g = b := by simpa [Value.ownBlock] using hb
    exact ⟨_, _, hg, by decide, by decide⟩
theorem RepF.isT {w : World} : {f : F V} → {ps fp : List Nat} → RepF encV w f ps fp → ∀ b ∈ fp, IsT w b
  | .nil, _, _, h, b, hb => by rw [h.2] at hb; cases hb
  | .cons _ _ _ _ _ _, _, _, h, b, hb => by
      obtain ⟨a, ps', sv, qs, fk, fr, h1, h2, h3, h4, h5, h6⟩ := h
      have := h6.mem_iff.1 hb
      simp only [List.cons_append, List.append_assoc, List.mem_cons, List.mem_append] at this
      rcases this with e | e | e | e
      · rw [e]; exact ⟨_, _, h2, by decide, by decide⟩
      · exact row_isT h3 b e
      · exact RepF.isT h4 b e
      · exact RepF.isT h5 b e
theorem Tr.isT {w : World} {tb : Nat} {l : Ents V} {fp : List Nat} (h : Tr w tb l fp) : ∀ b ∈ fp, IsT w b := by
  obtain ⟨x, ⟨ra, fr, h1, ⟨sv, qs, fk, k1, k2, k3, k4⟩, h3, h4⟩, hG, rfl⟩ := h
  intro b hb
  rcases List.mem_cons.1 (h3.mem_iff.1 hb) with e | e
  · rw [e]; exact ⟨_, _, h1, by decide, by decide⟩
  · have := k4.mem_iff.1 e
    simp only [List.mem_cons, List.mem_append] at this
    rcases this with e | e | e
    · rw [e]; exact ⟨_, _, k1, by decide, by decide⟩
    · exact row_isT k2 b e
    · exact k3.isT b e
theorem keeps_fr {W W' : World} {S : Nat → Prop} (hf : Fr S W W') (hs : ∀ b, S b → ∃ c T p, W.heap[b]? = some (.cells c T p)) : KeepsOthers W W' :=
  ⟨hf.size, fun k o hk ho => (hf.block k (lt_of_heap hk) fun h => by obtain ⟨c, T, p, e⟩ := hs k h; rw [hk] at e; cases e; cases ho).trans hk⟩
theorem KpU.of_fr {W W' : World} {S S' : Nat → Prop} (hf : Fr S' W W') (h1 : ∀ b, S b → b < W.heap.size ∧ ¬ S' b) (h2 : ∀ b, S' b → IsT W b) : KpU S W W' :=
  ⟨hf.size, fun b hb => hf.block b (h1 b hb).1 (h1 b hb).2, fun k c T p hk hT => hf.block k (lt_of_heap hk) fun h => by
    obtain ⟨c', T', e, n1, n2⟩ := h2 k h
    rw [hk] at e
    cases e
    rcases hT with e | e
    · exact n1 e
    · exact n2 e⟩
theorem KpU.b {S : Nat → Prop} {w : World} (hn : ∀ b, S b → b < w.heap.size) (W : World) (l : Nat) (o o' : Obj) (hl : w.heap.size ≤ l) (h : W.heap[l]? = some o) (ho : o.isCells = false) (_ : o.isWalk = false) : KpU S W (W.putObj l o') := by
  refine ⟨(grownBy_putObj' W l o').size, fun b hb => World.putObj_heap_other (by have := hn b hb; omega), fun k c T p hk _ => ?_⟩
  exact World.putObj_heap_other (by intro e; subst e; rw [h] at hk; cases hk; cases ho)
/-! What is put again, in order, is what it was. -/
theorem lput_le (l : Ents V) (k : Bs) (v : V) : (lput l k v).length ≤ l.length + 1 := by
  induction l with
  | nil => simp [lput]
  | cons q l ih =>
    unfold lput
    split
    · simp; omega
    · split <;> simp
theorem lput_mem {l : Ents V} {k : Bs} {v : V} {q : Bs × V} (h : q ∈ lput l k v) : q ∈ l ∨ q = (k, v) := by
  induction l with
  | nil => exact .inr (List.mem_singleton.1 h)
  | cons p l ih =>
    unfold lput at h
    split at h
    · rcases List.mem_cons.1 h with e | h
      · exact .inl (by rw [e]; exact List.mem_cons_self ..)
      · exact (ih h).imp (List.mem_cons_of_mem _) id
    · split at h
      · rcases List.mem_cons.1 h with e | h
        · exact .inr e
        · exact .inl (List.mem_cons_of_mem _ h)
      · rcases List.mem_cons.1 h with e | h
        · exact .inr e
        · exact .inl h
def lputs (l m : Ents V) : Ents V := m.foldl (fun l q => lput l q.1 q.2) l
theorem lputs_rise : (m l : Ents V) → Rise (l ++ m) → lputs l m = l ++ m
  | [], l, _ => by simp [lputs]
  | q :: m, l, h => by
      have h1 : ∀ p ∈ l, ltB p.1 q.1 = true := fun p hp => (List.pairwise_append.1 h).2.2 p hp q (List.mem_cons_self ..)
      have h2 : lput l q.1 q.2 = l ++ [q] := by
        have := lput_right l [] q.1 q.2 h1
        rwa [List.append_nil] at this
      show lputs (lput l q.1 q.2) m = _
      rw [h2, lputs_rise m (l ++ [q]) (by simpa using h)]
      simp
theorem lputs_le : (m l : Ents V) → (lputs l m).length ≤ l.length + m.length
  | [], l => by simp [lputs]
  | q :: m, l => by
      have h1 := lputs_le m (lput l q.1 q.2)
      have h2 := lput_le l q.1 q.2
      show (lputs (lput l q.1 q.2) m).length ≤ _
      rw [List.length_cons]; omega
theorem lputs_keys {L : Nat} : (m l : Ents V) → KeysLe L l → KeysLe L m → KeysLe L (lputs l m)
  | [], l, h, _ => h
  | q :: m, l, h, h2 => lputs_keys m (lput l q.1 q.2) (fun p hp => by
      rcases lput_mem hp with e | e
      · exact h p e
      · rw [e]; exact h2 q (List.mem_cons_self ..)) fun p hp => h2 p (List.mem_cons_of_mem _ hp)
theorem lunder_nil (l : Ents V) : lunder l [] = l := lunder_all fun q _ => List.nil_prefix
theorem cells_same {W W' : World} {row : Option Nat} (hg : W.grownBy W' row) (hr : ∀ r, row = some r → ∃ o : Obj, W.heap[r]? = some o ∧ o.isCells = false) {b : Nat} {c : Array Value} {T : TypeId} {p : Nat × Nat} (h : W.heap[b]? = some (.cells c T p)) : W'.heap[b]? = W.heap[b]? :=
  hg.block b (lt_of_heap h) fun e => by
    obtain ⟨o, h1, h2⟩ := hr b e.symm
    rw [h] at h1; cases h1; cases h2
theorem Tr.same {W W' : World} {row : Option Nat} {tb : Nat} {l : Ents V} {fp : List Nat} (h : Tr W tb l fp) (hg : W.grownBy W' row) (hr : ∀ r, row = some r → ∃ o : Obj, W.heap[r]? = some o ∧ o.isCells = false) : Tr W' tb l fp :=
  h.move fun b hb => by obtain ⟨c, T, e, _⟩ := h.isT b hb; exact cells_same hg hr e
theorem KpU.t' {S : Nat → Prop} {A B C : World} (h : KpU S A B) (k : KpU S B C) : KpU S A C := h.t k
/-- What stands in Copy's rounds. -/
structure CpI (w : World) (ob N0 tb2 : Nat) (pre : List Kl) (W : World) : Prop where
  box : W.heap[ob]? = some (.cells #[.pointer (some ⟨tb2, 0, none⟩)] 24 (0, 0))
  tr : ∃ f2, Tr W tb2 (lputs [] (vals pre)) f2 ∧ ∀ b ∈ f2, w.heap.size ≤ b ∧ b ≠ ob ∧ b ≠ ob + 1 ∧ b ≠ ob + 1 + 1
  below : Below w.heap.size w W
  size : N0 ≤ W.heap.size
theorem CpI.own {w : World} {ob N0 tb2 B : Nat} (hB : w.heap.size ≤ B) : OwnFrom B (CpI w ob N0 tb2) := fun s W W' row h hg hr => by
  have hr' : ∀ r, row = some r → ∃ o : Obj, W.heap[r]? = some o ∧ o.isCells = false := fun r e => (hr r e).2
  obtain ⟨f2, h2, h3⟩ := h.tr
  exact ⟨(cells_same hg hr' h.box).trans h.box, ⟨f2, h2.same hg hr', h3⟩, h.below.grown hg h.below.size (fun k e => Nat.le_trans hB (hr k e).1), Nat.le_trans h.size hg.size⟩
set_option maxRecDepth 100000 in
set_option maxHeartbeats 3200000 in
/-- Copy. -/
theorem TCopy_calls (w : World) (tb : Nat) (l : Ents V) (fp : List Nat) (ht : Tr w tb l fp) (L : Nat) (hL : L ≤ 1073741824) (hK : KeysLe L l) (hN : l.length ≤ 1073741824) :
    Calls Try.prog 28 #[.pointer (some ⟨tb, 0, none⟩)] w fun e w' => ∃ tb2 fp2, e = .returned (.pointer (some ⟨tb2, 0, none⟩)) ∧ Tr w' tb2 l fp2 ∧ (∀ b ∈ fp2, w.heap.size ≤ b) ∧ Below w.heap.size w w' := by
  refine (callsIn_wide (n := 3)).1 ?_
  refine callsIn_of_wp_marks Try.func28 rfl trivial ?_ rfl
  simp only [Try.ntmps28, List.size_toArray, List.length_cons, List.length_nil, Nat.reduceAdd, Nat.reduceSub, Array.replicate_succ, Array.replicate_zero, List.push_toArray, List.append_toArray, List.nil_append, List.cons_append]
  gi_wp2_with (first
    | (refine ⟨trivial, ?_⟩; gi_at_call 11; refine (callsIn_wide.2 (TNew_calls _)).mono ?_; rintro e w1 ⟨tb2, f0, rfl, hT0, hf0, hb0⟩)
    | (refine ⟨trivial, ?_⟩; gi_at_call 26; refine (callsIn_wide.2 (Under_calls _ _ _)).mono ?_; rintro e w' ⟨rfl, rfl⟩))
  obtain ⟨W0, hW0⟩ : ∃ W0, W0 = (((w1.alloc (.cells #[.pointer (some ⟨tb2, 0, none⟩)] 24)).alloc (.cells #[.pointer (some ⟨tb, 0, none⟩)] 24)).alloc (.cells #[.string ⟨#[]⟩] 9)) := ⟨_, rfl⟩
  have hsz0 : W0.heap.size = w1.heap.size + 1 + 1 + 1 := by rw [hW0]; simp
  have hB0 : Below w1.heap.size w1 W0 := by rw [hW0]; exact (((Below.refl _ w1).alloc (Nat.le_refl _) _).alloc (by simp) _).alloc (by simp; omega) _
  have b1 : W0.heap[w1.heap.size]? = some (.cells #[.pointer (some ⟨tb2, 0, none⟩)] 24 (0, 0)) := by
    rw [hW0]
    exact (Below.heap_alloc _ _ _ (by simp; omega)).trans ((Below.heap_alloc _ _ _ (by simp)).trans (heap_alloc_new w1 _))
  have b2 : W0.heap[w1.heap.size + 1]? = some (.cells #[.pointer (some ⟨tb, 0, none⟩)] 24 (0, 0)) := by
    rw [hW0]
    refine (Below.heap_alloc _ _ _ (by simp)).trans ?_
    have := heap_alloc_new (w1.alloc (.cells #[.pointer (some ⟨tb2, 0, none⟩)] 24)) (.cells #[.pointer (some ⟨tb, 0, none⟩)] 24)
    rwa [World.size_alloc] at this
  have b3 : W0.heap[w1.heap.size + 1 + 1]? = some (.cells #[.string ⟨#[]⟩] 9 (0, 0)) := by
    rw [hW0]
    have := heap_alloc_new ((w1.alloc (.cells #[.pointer (some ⟨tb2, 0, none⟩)] 24)).alloc (.cells #[.pointer (some ⟨tb, 0, none⟩)] 24)) (.cells #[.string ⟨#[]⟩] 9)
    rwa [World.size_alloc, World.size_alloc] at this
  have hbw : Below w.heap.size w W0 := hb0.trans (hB0.mono hb0.size)
  have hltw := ht.lt
  have hT : Tr W0 tb l fp := ht.move fun b hb => hbw.block b (hltw b hb)
  have hT2 : Tr W0 tb2 [] f0 := hT0.move fun b hb => hB0.block b (hT0.lt b hb)
  have hf0' := hT0.lt
  have hw1 := hb0.size
  have hri := ht.rise
  rw [← hW0]
  clear hW0
  have HT := Lib.hid hT
  have HT2 := Lib.hid hT2
  clear hT hT2 hT0 ht
  refine wpIn_rangeFunc_ownG rfl (by omega) (gf := 40) (lb := #[.pointer (some ⟨w1.heap.size + 1, 0, none⟩), .pointer (some ⟨w1.heap.size + 1 + 1, 0, none⟩)]) rfl trivial (enters_of Try.func40 (by kernel_rfl) rfl)
    (under_stops (3 - 1) (by omega) tb (w1.heap.size + 1) (w1.heap.size + 1 + 1) l fp [] ⟨#[]⟩ rfl L hL hK (by simp) W0 HT.out b2 b3) KpU.t' (KpU.b (fun b hb => by rcases hb with h | h | h; (have := hltw b h; omega); omega; omega)) (Below.refl _ _) (fun _ => rfl)
    (CpI w w1.heap.size W0.heap.size tb2)
    (fun _ _ _ => False)
    (CpI.own (by omega))
    (fun _ _ _ _ _ hs _ _ => hs)
    ⟨b1, ⟨f0, HT2.out, fun b hb => ⟨hf0 b hb, by have := hf0' b hb; omega, by have := hf0' b hb; omega, by have := hf0' b hb; omega⟩⟩, hbw, Nat.le_refl _⟩
    (fun x : Kl => { tmps := #[.pointer (some ⟨tb, 0, none⟩), undef, .pointer none, .pointer (some ⟨w1.heap.size, 0, none⟩), str x.1.1, encV x.1.2, .pointer (some ⟨tb2, 0, none⟩), .pointer (some ⟨tb, 0, none⟩), .func (.func 40) #[] #[.pointer (some ⟨w1.heap.size + 1, 0, none⟩), .pointer (some ⟨w1.heap.size + 1 + 1, 0, none⟩)], str x.1.1, encV x.1.2, undef, undef, undef, undef, undef], defers := [] }) ?assign ?body ?done ?stop
  case assign =>
    intro yl x W K hK
    unfold encK encE
    gi_wp2
    exact hK
  case body =>
    rintro yl pr x W hI hlt
    obtain ⟨f2, h2, h3⟩ := hI.tr
    have hc : W.cell? ⟨w1.heap.size, 0, none⟩ = some (.pointer (some ⟨tb2, 0, none⟩)) := by rw [cell_of_row W _ _ _ _ (0, 0) hI.box]; rfl
    rw [lunder_nil] at hlt
    have hvl : (vals pr).length = pr.length := by simp [vals]
    have hll := lputs_le (vals pr) []
    have hkk : KeysLe 4294967296 (lputs [] (vals pr)) := lputs_keys (vals pr) [] (fun q hq => by cases hq) fun q hq => by
      obtain ⟨z, _, rfl⟩ := List.mem_map.1 hq; exact z.2
    have hput := TPut_calls W tb2 _ f2 h2 4294967296 (Nat.le_refl _) hkk (by simp at hll; omega) ⟨x.1.1.toArray⟩ x.1.1 rfl x.2 x.1.2
    have HPUT := Lib.hid hput
    clear hput hll hkk
    gi_wp2_with (refine ⟨trivial, ?_⟩; gi_at_call 12; refine (CallsIn.inRound yl (callsIn_wide.2 HPUT.out)).mono ?_; rintro e w4 ⟨rfl, f3, k1, k2, k3⟩)
    have hfl : ∀ b ∈ f2, ∃ c T p, W.heap[b]? = some (.cells c T p) := fun b hb => by obtain ⟨c, T, e, _⟩ := h2.isT b hb; exact ⟨c, T, _, e⟩
    refine ⟨(keeps_fr k3 hfl).from _, KpU.of_fr k3 (fun b hb => ?_) (fun b hb => h2.isT b hb), ?_, ⟨f3, ?_, fun b hb => ?_⟩, ?_, ?_⟩
    · have hWs := hI.size
      rcases hb with h | h | h
      · have := hltw b h
        exact ⟨by omega, fun hm => by have := (h3 b hm).1; omega⟩
      · exact ⟨by omega, fun hm => (h3 b hm).2.2.1 h⟩
      · exact ⟨by omega, fun hm => (h3 b hm).2.2.2 h⟩
    · exact (k3.block _ (lt_of_heap hI.box) fun hm => (h3 _ hm).2.1 rfl).trans hI.box
    · have e : lputs [] (vals (pr ++ [x])) = lput (lputs [] (vals pr)) x.1.1 x.1.2 := by simp [vals, lputs]
      rw [e]; exact k1
    · have hWs := hI.size
      rcases k2 b hb with h | h
      · exact h3 b h
      · exact ⟨by omega, by omega, by omega, by omega⟩
    · exact ⟨k3.os.trans hI.below.os, k3.tape.trans hI.below.tape, k3.output.trans hI.below.output, Nat.le_trans hI.below.size k3.size, fun k hk => (k3.block k (Nat.lt_of_lt_of_le hk hI.below.size) fun hm => by have := (h3 k hm).1; omega).trans (hI.below.block k hk)⟩
    · exact Nat.le_trans hI.size k3.size
  case done =>
    rintro D ys W hD hys hI hK
    obtain ⟨f2, h2, h3⟩ := hI.tr
    have hc : W.cell? ⟨w1.heap.size, 0, none⟩ = some (.pointer (some ⟨tb2, 0, none⟩)) := by rw [cell_of_row W _ _ _ _ (0, 0) hI.box]; rfl
    rw [hys, lunder_nil, lputs_rise l [] (by simpa using hri)] at h2
    have H2 := Lib.hid h2
    have HI := Lib.hid hI
    clear h2 hI hys
    gi_wp2
    refine ⟨by simp, .inl ⟨_, _, rfl, run_takeDeferred hK, ?_⟩⟩
    refine ⟨_, results_tmp rfl _ _ _, tb2, f2, rfl, H2.out.move fun b hb => ?_, fun b hb => (h3 b hb).1, ?_⟩
    · obtain ⟨c, T, e, _⟩ := H2.out.isT b hb
      exact World.putObj_heap_other (fun e2 => by subst e2; rw [hK] at e; cases e)
    · exact HI.out.below.trans (belowK_b (w := w) (Nat.le_refl _) W D _ _ (by omega) hK rfl rfl)
  case stop =>
    rintro D c pr W _ _ h _
    exact h.elim
end Go.Proofs.Ytkpfendodmfeoaa
