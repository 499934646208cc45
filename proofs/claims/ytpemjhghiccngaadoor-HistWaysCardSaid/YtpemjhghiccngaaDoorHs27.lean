import Derived.Test.YtpemjhghiccngaaDoorHs25
namespace Go.Proofs.YtpemjhghiccngaaDoor
set_option linter.unusedVariables false
set_option linter.unusedSimpArgs false
open Go.RowKit Go.Shelf
/-! The history's answers, in the document's words. -/
/-- What Older goes through, of all commands, the last one first. -/
def olderL (C : List Bs) (cmd : Bs) (is : Bool) : List Bs := if is = true ∧ cmd ∈ C then C.drop (C.idxOf cmd + 1) else C
/-- What Newer goes through. -/
def newerL (C : List Bs) (cmd : Bs) : List Bs := if cmd ∈ C then (C.take (C.idxOf cmd)).reverse else []
theorem mem_cut {c : List Bs} {x : Bs} (h : x ∈ c) : ∃ a b, c = a ++ x :: b ∧ x ∉ a := by
  induction c with
  | nil => simp at h
  | cons y c ih =>
    by_cases e : x = y
    · exact ⟨[], c, by rw [e]; rfl, by simp⟩
    · obtain ⟨a, b, rfl, hn⟩ := ih (by simpa [e] using h)
      exact ⟨y :: a, b, rfl, by simp [e, hn]⟩
theorem idxOf_cut (a b : List Bs) (x : Bs) (h : x ∉ a) : (a ++ x :: b).idxOf x = a.length := by
  rw [List.idxOf_append, if_neg h]; simp
theorem idxI_cut (a b : List Bs) (x : Bs) (h : x ∉ a) : idxI (a ++ x :: b) (fun y => decide (y = x)) = (a.length : Int) :=
  idxI_at (x := x) (by rw [List.getElem?_append_right (Nat.le_refl _), Nat.sub_self]; rfl) (decide_eq_true rfl) (by
    intro y hy
    rw [List.take_left'  rfl] at hy
    exact decide_eq_false fun e => h (e ▸ hy))
theorem idxI_not {c : List Bs} {x : Bs} (h : x ∉ c) : idxI c (fun y => decide (y = x)) = -1 :=
  idxI_none fun y hy => decide_eq_false fun e => h (e ▸ hy)
theorem older_is {c : List Bs} (hn : c.reverse.Nodup) (cmd : Bs) (is : Bool) : (olderC c cmd is).reverse = olderL c.reverse cmd is := by
  unfold olderC olderL
  by_cases hm : cmd ∈ c
  · obtain ⟨a, b, rfl, ha⟩ := mem_cut hm
    rw [List.reverse_append, List.reverse_cons, List.append_assoc] at *
    have hb : cmd ∉ b.reverse := fun h => by
      have := (List.nodup_append.1 hn).2.2 cmd h cmd (by simp)
      exact this rfl
    rw [idxI_cut a b cmd ha, show b.reverse ++ ([cmd] ++ a.reverse) = b.reverse ++ cmd :: a.reverse from rfl, idxOf_cut _ _ _ hb]
    have e : ((a ++ cmd :: b).take ((a.length : Int).toNat)).reverse = (b.reverse ++ cmd :: a.reverse).drop (b.reverse.length + 1) := by
      rw [Int.toNat_natCast, List.take_left' rfl]
      rw [show b.reverse ++ cmd :: a.reverse = (b.reverse ++ [cmd]) ++ a.reverse by simp, List.drop_left' (by simp)]
    cases is with
    | false => simp
    | true => rw [if_pos ⟨rfl, by omega⟩, if_pos ⟨rfl, by simp⟩, e]
  · rw [idxI_not hm, if_neg (by omega), if_neg (by simp [hm])]
theorem newer_is {c : List Bs} (hn : c.reverse.Nodup) (cmd : Bs) : newerC c cmd = newerL c.reverse cmd := by
  unfold newerC newerL
  by_cases hm : cmd ∈ c
  · obtain ⟨a, b, rfl, ha⟩ := mem_cut hm
    rw [List.reverse_append, List.reverse_cons, List.append_assoc] at *
    have hb : cmd ∉ b.reverse := fun h => by
      have := (List.nodup_append.1 hn).2.2 cmd h cmd (by simp)
      exact this rfl
    rw [idxI_cut a b cmd ha, show b.reverse ++ ([cmd] ++ a.reverse) = b.reverse ++ cmd :: a.reverse from rfl, idxOf_cut _ _ _ hb]
    rw [if_neg (by omega), if_pos (by simp), Int.toNat_natCast, List.take_left' rfl, List.reverse_reverse]
    rw [show a ++ cmd :: b = (a ++ [cmd]) ++ b by simp, List.drop_left' (by simp)]
  · rw [idxI_not hm, if_pos (by omega), if_neg (by simpa using hm)]
theorem wo_sub (s : Bs) : (l : List EntT) → (st : List EntT × Nat) → (l.foldl (woStep s) st).1.Sublist (st.1 ++ l)
  | [], st => by simp
  | x :: l, st => by
      rw [List.foldl_cons]
      refine (wo_sub s l (woStep s st x)).trans ?_
      unfold woStep
      split
      · exact List.Sublist.append (List.Sublist.refl _) (List.sublist_cons_self ..)
      · rw [List.append_assoc]; exact List.Sublist.refl _
theorem woF_sub (l : List EntT) (s : Bs) (n : Nat) : (woF l s n).1.Sublist l := by
  have := wo_sub s l ([], n)
  simpa [woF] using this
theorem addL1_sub (l : List EntT) (e : EntT) : (addL1 l e).Sublist (l ++ [e]) := by
  unfold addL1
  split
  · exact woF_sub _ _ _
  · exact List.Sublist.refl _
theorem addL_sub (l : List EntT) (e : EntT) : (addL l e).Sublist (l ++ [e]) := by
  unfold addL
  split
  · split
    · exact addL1_sub l e
    · exact (woF_sub _ _ _).trans (addL1_sub l e)
  · exact List.sublist_append_left ..
theorem foldA_sub : (l : List EntT) → (a : List EntT) → (l.foldl addL a).Sublist (a ++ l)
  | [], a => by simp
  | x :: l, a => by
      rw [List.foldl_cons]
      refine (foldA_sub l (addL a x)).trans ?_
      have := List.Sublist.append (addL_sub a x) (List.Sublist.refl l)
      simpa using this
theorem ofL_sub (l : List EntT) : (ofL l).Sublist l := by
  have := foldA_sub l []
  simpa [ofL] using this
theorem foldN_mem (x : Bs) : (l : List EntT) → (a : List Bs) → (x ∈ l.foldl (fun out e => nub out e.c) a ↔ x ∈ a ∨ ∃ e ∈ l, e.c = x)
  | [], a => by simp
  | y :: l, a => by
      rw [List.foldl_cons, foldN_mem x l (nub a y.c)]
      have : x ∈ nub a y.c ↔ x ∈ a ∨ y.c = x := by
        unfold nub
        split
        · rename_i h
          constructor
          · exact .inl
          · rintro (h1 | h1)
            · exact h1
            · rwa [← h1]
        · rw [List.mem_append, List.mem_singleton]
          exact or_congr Iff.rfl eq_comm
      rw [this, or_assoc]
      simp
theorem cmdsE_mem {l : List EntT} {x : Bs} : x ∈ cmdsE l ↔ ∃ e ∈ l, e.c = x := by
  unfold cmdsE cmdsR
  rw [foldN_mem]
  simp
/-! The calls, of a history that stands as the document's. -/
theorem Hg.small {L : List EntT} (h : SmallE L) : ∀ c ∈ cmdsE L, c.length ≤ 1000000 := by
  intro c hc
  obtain ⟨e, he, rfl⟩ := cmdsE_mem.1 hc
  exact (h e he).2
theorem HgLen_calls {B : Nat} (w : World) {hb : Nat} {L : List EntT} (h : Hg B w hb L) (hl : L.length ≤ 100000) : Calls Tryd.prog 21 #[hptr hb] w fun e w' => e = .returned (n64 (cmdsE L).length) ∧ w = w' := by
  obtain ⟨c, fp, h1, h2, h3⟩ := h
  have hle := cmdsE_len L
  rw [← h2.len] at *
  exact HLen_calls w h1 (by omega)
theorem HgCmds_calls {B : Nat} (w : World) {hb : Nat} {L : List EntT} (h : Hg B w hb L) (hl : L.length ≤ 100000) :
    Calls Tryd.prog 19 #[hptr hb] w fun e w' => ∃ A1 c1, e = .returned (.slice A1 (cmdsE L).length c1) ∧ Row w' w.heap.size 9 1 (.slice A1 (cmdsE L).length c1) (cmdsE L).length ((cmdsE L).map str) ∧ Below w.heap.size w w' := by
  obtain ⟨c, fp, h1, h2, h3⟩ := h
  have hle := cmdsE_len L
  have e2 := h2.len
  have := HCmds_calls w h1 (by omega)
  rw [e2, show c.reverse = cmdsE L from h2] at this
  exact this
theorem HgUses_calls {B : Nat} (w : World) {hb : Nat} {L : List EntT} (h : Hg B w hb L) (hl : L.length ≤ 100000) (s : Bs) (sb : ByteArray) (hs : sb = ⟨s.toArray⟩) :
    Calls Tryd.prog 24 #[hptr hb, .string sb] w fun e w' => ∃ A1 c1, e = .returned (.slice A1 (usesE L s).length c1) ∧ Row w' w.heap.size 51 2 (.slice A1 (usesE L s).length c1) (usesE L s).length (flatU (usesE L s)) ∧ Below w.heap.size w w' := by
  obtain ⟨c, fp, h1, h2, h3⟩ := h
  exact HUses_calls w h1 (by omega) s sb hs
theorem HgEntries_calls {B : Nat} (w : World) {hb : Nat} {L : List EntT} (h : Hg B w hb L) (hl : L.length ≤ 100000) :
    Calls Tryd.prog 18 #[hptr hb] w fun e w' => ∃ A1 c1, e = .returned (.slice A1 L.length c1) ∧ Row w' w.heap.size 35 3 (.slice A1 L.length c1) L.length (flatE L) ∧ Below w.heap.size w w' := by
  obtain ⟨c, fp, h1, h2, h3⟩ := h
  exact HEntries_calls w h1 (by omega)
theorem HgCopy_calls {B : Nat} (w : World) {hb : Nat} {L : List EntT} (h : Hg B w hb L) (hl : L.length ≤ 100000) :
    Calls Tryd.prog 30 #[hptr hb] w fun e w' => ∃ hb', e = .returned (hptr hb') ∧ Hg w.heap.size w' hb' L ∧ Below w.heap.size w w' := by
  obtain ⟨c, fp, h1, h2, h3⟩ := h
  have hle := cmdsE_len L
  have e2 := h2.len
  refine (HCopy_calls w h1 (by omega) (by omega)).mono ?_
  rintro x w' ⟨hb', fp', rfl, k1, k2, k3⟩
  exact ⟨hb', rfl, ⟨c, fp', k1, h2, k2⟩, k3⟩
theorem HgOlder_calls {B : Nat} (w : World) {hb : Nat} {L : List EntT} (h : Hg B w hb L) (hl : L.length ≤ 100000) (hs0 : SmallE L) (cmd : Bs) (sc : ByteArray) (hs : sc = ⟨cmd.toArray⟩) (is : Bool) (F : Value) (p : Bs → Bool) (hF : FitG 1000000 F p w) :
    Calls Tryd.prog 27 #[hptr hb, .string sc, .bool is, F] w fun e w' => e = .returned (.tuple #[str (fitL p (olderL (cmdsE L) cmd is)).1, .bool (fitL p (olderL (cmdsE L) cmd is)).2]) ∧ Below w.heap.size w w' := by
  obtain ⟨c, fp, h1, h2, h3⟩ := h
  have hle := cmdsE_len L
  have e2 := h2.len
  have e3 : c.reverse = cmdsE L := h2
  have hsm := Hg.small hs0
  have := HOlder_calls 1000000 w h1 (by omega) (fun x hx => hsm x (by rw [← e3]; simpa using hx)) cmd sc hs is F p hF
  rw [older_is (by rw [e3]; exact cmdsE_nodup L), e3] at this
  exact this
theorem HgNewer_calls {B : Nat} (w : World) {hb : Nat} {L : List EntT} (h : Hg B w hb L) (hl : L.length ≤ 100000) (hs0 : SmallE L) (cmd : Bs) (sc : ByteArray) (hs : sc = ⟨cmd.toArray⟩) (F : Value) (p : Bs → Bool) (hF : FitG 1000000 F p w) :
    Calls Tryd.prog 28 #[hptr hb, .string sc, F] w fun e w' => e = .returned (.tuple #[str (fitL p (newerL (cmdsE L) cmd)).1, .bool (fitL p (newerL (cmdsE L) cmd)).2]) ∧ Below w.heap.size w w' := by
  obtain ⟨c, fp, h1, h2, h3⟩ := h
  have hle := cmdsE_len L
  have e2 := h2.len
  have e3 : c.reverse = cmdsE L := h2
  have hsm := Hg.small hs0
  have := HNewer_calls 1000000 w h1 (by omega) (fun x hx => hsm x (by rw [← e3]; simpa using hx)) cmd sc hs F p hF
  rw [newer_is (by rw [e3]; exact cmdsE_nodup L), e3] at this
  exact this
end Go.Proofs.YtpemjhghiccngaaDoor
namespace Go.Proofs.YtpemjhghiccngaaDoor
set_option linter.unusedVariables false
set_option linter.unusedSimpArgs false
/-! What every history keeps. -/
theorem nodup_len : (l m : List Bs) → l.Nodup → (∀ x ∈ l, x ∈ m) → l.length ≤ m.length
  | [], m, _, _ => Nat.zero_le _
  | x :: l, m, h, hs => by
      obtain ⟨h1, h2⟩ := List.nodup_cons.1 h
      have hx := hs x (List.mem_cons_self ..)
      have := nodup_len l (m.erase x) h2 fun y hy => (List.mem_erase_of_ne (fun e => h1 (by rw [← e]; exact hy))).2 (hs y (List.mem_cons_of_mem _ hy))
      rw [List.length_erase_of_mem hx] at this
      have hp : 0 < m.length := List.length_pos_of_mem hx
      rw [List.length_cons]; omega
theorem cmdsE_sub {a b : List EntT} (h : ∀ x ∈ a, x ∈ b) : (cmdsE a).length ≤ (cmdsE b).length :=
  nodup_len _ _ (cmdsE_nodup a) fun x hx => by
    obtain ⟨e, he, hc⟩ := cmdsE_mem.1 hx
    exact cmdsE_mem.2 ⟨e, h e he, hc⟩
theorem uses_sub {a b : List EntT} (h : a.Sublist b) (s : Bs) : (usesE a s).length ≤ (usesE b s).length := (h.filter _).length_le
theorem uses_snoc (l : List EntT) (e : EntT) (s : Bs) : (usesE (l ++ [e]) s).length = (usesE l s).length + if e.c = s then 1 else 0 := by
  unfold usesE
  rw [List.filter_append, List.length_append]
  by_cases h : e.c = s <;> simp [h]
theorem wo_cnt (s : Bs) : (l : List EntT) → (st : List EntT × Nat) → (usesE (l.foldl (woStep s) st).1 s).length = (usesE st.1 s).length + ((usesE l s).length - st.2)
  | [], st => by simp [usesE]
  | x :: l, st => by
      rw [List.foldl_cons, wo_cnt s l (woStep s st x)]
      have e : (usesE (x :: l) s).length = (if x.c = s then 1 else 0) + (usesE l s).length := by
        unfold usesE
        by_cases h : x.c = s <;> simp [h] <;> omega
      rw [e]
      unfold woStep
      by_cases h : x.c = s
      · by_cases h0 : 0 < st.2
        · rw [if_pos ⟨h, h0⟩, if_pos h]; dsimp only; omega
        · rw [if_neg (fun k => h0 k.2), if_pos h]
          dsimp only
          rw [uses_snoc, if_pos h]; omega
      · rw [if_neg (fun k => h k.1), if_neg h]
        dsimp only
        rw [uses_snoc, if_neg h]; omega
structure Fine (L : List EntT) : Prop where
  right : ∀ e ∈ L, rightE e = true
  uses : ∀ s, (usesE L s).length ≤ 6
  cmds : (cmdsE L).length ≤ 40
theorem Fine.nil : Fine [] := ⟨by simp, fun s => by simp [usesE], by simp [cmdsE, cmdsR]⟩
theorem addL1_uses {l : List EntT} (h : ∀ s, (usesE l s).length ≤ 6) (e : EntT) : ∀ s, (usesE (addL1 l e) s).length ≤ 6 := by
  intro s
  have h2 := uses_snoc l e s
  unfold addL1
  split
  · by_cases hs : e.c = s
    · subst hs
      have := wo_cnt e.c (l ++ [e]) ([], 1)
      rw [h2, if_pos rfl] at this
      have h3 := h e.c
      have h4 : (usesE (([] : List EntT), 1).1 e.c).length = 0 := rfl
      unfold woF; omega
    · have h3 := uses_sub (woF_sub (l ++ [e]) e.c 1) s
      rw [h2, if_neg hs] at h3
      have := h s; omega
  · rename_i hn
    by_cases hs : e.c = s
    · subst hs; exact Nat.le_of_not_lt hn
    · rw [h2, if_neg hs]; exact h s
theorem Fine.add {l : List EntT} (h : Fine l) (e : EntT) : Fine (addL l e) := by
  unfold addL
  split
  · rename_i hr
    have hr1 : ∀ x ∈ addL1 l e, rightE x = true := fun x hx => by
      rcases List.mem_append.1 ((addL1_sub l e).subset hx) with h1 | h1
      · exact h.right x h1
      · rw [List.mem_singleton.1 h1]; exact hr
    split
    · rename_i hc
      exact ⟨hr1, addL1_uses h.uses e, hc⟩
    · rename_i hc
      refine ⟨fun x hx => hr1 x ((woF_sub _ _ _).subset hx), fun s => Nat.le_trans (uses_sub (woF_sub _ _ _) s) (addL1_uses h.uses e s), ?_⟩
      rw [woF_all, ← cmdsE_filter (fun x => !decide (x = lastC (addL1 l e)))]
      have hlen : (cmdsE (addL1 l e)).length ≤ 41 := by
        rw [addL1_cmds, List.length_cons]
        have := List.length_filter_le (fun y => !decide (y = e.c)) (cmdsE l)
        have := h.cmds; omega
      have hne : cmdsE (addL1 l e) ≠ [] := by intro e0; rw [e0] at hc; simp at hc
      have hm : lastC (addL1 l e) ∈ cmdsE (addL1 l e) := by
        unfold lastC
        rw [List.getLastD_eq_getLast?, List.getLast?_eq_some_getLast hne]
        exact List.getLast_mem hne
      have hlt : ((cmdsE (addL1 l e)).filter fun x => !decide (x = lastC (addL1 l e))).length < (cmdsE (addL1 l e)).length := by
        rw [List.length_filter_lt_length_iff_exists]
        exact ⟨_, hm, by simp⟩
      omega
  · exact h
theorem Fine.fold : (l : List EntT) → (a : List EntT) → Fine a → Fine (l.foldl addL a)
  | [], a, h => h
  | x :: l, a, h => Fine.fold l (addL a x) (h.add x)
theorem Fine.of (l : List EntT) : Fine (ofL l) := Fine.fold l [] Fine.nil
theorem Fine.snoc {a : List EntT} {e : EntT} (h : Fine (a ++ [e])) : addL a e = a ++ [e] := by
  have h1 : addL1 a e = a ++ [e] := by
    unfold addL1
    have hu := h.uses e.c
    unfold usesE at hu
    rw [if_neg (Nat.not_lt.2 hu)]
  unfold addL
  rw [if_pos (h.right e (by simp)), h1, if_pos h.cmds]
theorem Fine.sub {a b : List EntT} (h : Fine b) (s : a.Sublist b) : Fine a :=
  ⟨fun e he => h.right e (s.subset he), fun x => Nat.le_trans (uses_sub s x) (h.uses x), Nat.le_trans (cmdsE_sub fun x hx => s.subset hx) h.cmds⟩
theorem Fine.foldAgain : (l : List EntT) → (a : List EntT) → Fine (a ++ l) → l.foldl addL a = a ++ l
  | [], a, _ => by simp
  | x :: l, a, h => by
      have e : a ++ x :: l = (a ++ [x]) ++ l := by simp
      rw [e] at h
      rw [List.foldl_cons, Fine.snoc (h.sub (List.sublist_append_left ..)), Fine.foldAgain l (a ++ [x]) h, e]
/-- A history that is made of a history's entries is that history. -/
theorem ofL_again (l : List EntT) : ofL (ofL l) = ofL l := by
  have := Fine.foldAgain (ofL l) [] (by simpa using Fine.of l)
  simpa [ofL] using this
theorem SmallE.sub {a b : List EntT} (h : SmallE b) (s : a.Sublist b) : SmallE a := fun e he => h e (s.subset he)
theorem SmallE.of {l : List EntT} (h : SmallE l) : SmallE (ofL l) := h.sub (ofL_sub l)
theorem wo_left (s : Bs) : (l : List EntT) → (st : List EntT × Nat) → (l.foldl (woStep s) st).2 = st.2 - (usesE l s).length
  | [], st => by simp [usesE]
  | x :: l, st => by
      rw [List.foldl_cons, wo_left s l (woStep s st x)]
      have e : (usesE (x :: l) s).length = (if x.c = s then 1 else 0) + (usesE l s).length := by
        unfold usesE
        by_cases h : x.c = s <;> simp [h] <;> omega
      rw [e]
      unfold woStep
      by_cases h : x.c = s
      · by_cases h0 : 0 < st.2
        · rw [if_pos ⟨h, h0⟩, if_pos h]; dsimp only; omega
        · rw [if_neg (fun k => h0 k.2), if_pos h]; dsimp only; omega
      · rw [if_neg (fun k => h k.1), if_neg h]; dsimp only; omega
theorem addL1_last (l : List EntT) (e : EntT) : ∃ q, addL1 l e = q ++ [e] := by
  unfold addL1
  split
  · rename_i h
    refine ⟨(l.foldl (woStep e.c) ([], 1)).1, ?_⟩
    have h2 := uses_snoc l e e.c
    unfold usesE at h2
    rw [h2, if_pos rfl] at h
    have h3 := wo_left e.c l ([], 1)
    have h0 : (l.foldl (woStep e.c) ([], 1)).2 = 0 := by
      rw [h3]; unfold usesE; dsimp only; omega
    unfold woF
    rw [List.foldl_append, List.foldl_cons, List.foldl_nil]
    generalize l.foldl (woStep e.c) ([], 1) = st at h0
    unfold woStep
    rw [if_neg (fun k => by omega)]
  · exact ⟨l, rfl⟩
/-- A right entry that comes last is there. -/
theorem addL_last (l : List EntT) {e : EntT} (hr : rightE e = true) : ∃ q, addL l e = q ++ [e] := by
  obtain ⟨q, hq⟩ := addL1_last l e
  unfold addL
  rw [if_pos hr]
  split
  · exact ⟨q, hq⟩
  · rename_i hc
    rw [woF_all]
    have hne : ¬ e.c = lastC (addL1 l e) := by
      unfold lastC
      rw [addL1_cmds] at hc ⊢
      generalize ht : (cmdsE l).filter (fun y => !decide (y = e.c)) = t at hc
      have htn : t ≠ [] := by intro e0; rw [e0] at hc; simp at hc
      rw [List.getLastD_eq_getLast?, List.getLast?_cons, List.getLast?_eq_some_getLast htn]
      have hm := List.getLast_mem htn
      obtain ⟨z, hz⟩ : ∃ z, z = t.getLast htn := ⟨_, rfl⟩
      rw [← hz] at hm ⊢
      rw [← ht] at hm
      have h9 : (!decide (z = e.c)) = true := (List.mem_filter.1 hm).2
      intro e9
      rw [show z = e.c from e9.symm] at h9
      simp at h9
    refine ⟨q.filter fun x => !decide (x.c = lastC (addL1 l e)), ?_⟩
    generalize lastC (addL1 l e) = z at hne
    rw [hq, List.filter_append]
    simp [hne]
theorem addL_wrong (l : List EntT) {e : EntT} (hr : ¬ rightE e = true) : addL l e = l := by
  unfold addL
  rw [if_neg hr]
end Go.Proofs.YtpemjhghiccngaaDoor
