import Derived.Test.YtfgjhfmgacopoaaDoorWa
import Derived.Test.YtfgjhfmgacopoaaDoorPu
namespace Go.Proofs.YtfgjhfmgacopoaaDoor
open Go.RowKit
/-! Clusters: plain laws. -/
theorem sg_split (l : Bs) (ps qs : List Bs) (h : sg l = ps ++ qs) : sg ps.flatten = ps ∧ sg qs.flatten = qs := by
  induction ps generalizing l with
  | nil =>
    refine ⟨sg_nil, ?_⟩
    rw [List.nil_append] at h
    rw [← h, sg_flat]
  | cons p ps ih =>
    have h0 : l ≠ [] := by intro e; subst e; rw [sg_nil] at h; cases h
    have hf := sg_flat l
    rw [h] at hf
    rw [sg_cons h0, List.cons_append] at h
    injection h with h1 h2
    obtain ⟨i1, i2⟩ := ih _ h2
    refine ⟨?_, i2⟩
    have hp := dec_pos l
    have hpl := dec_le h0
    have hlen : p.length = (dec l).2 := by rw [← h1, List.length_take]; omega
    have hx : (p :: ps).flatten = l.take ((p :: ps).flatten.length) := by
      conv => rhs; rw [← hf, List.flatten_append]
      rw [List.take_left]
    have hd : dec (p :: ps).flatten = dec l := by
      rw [hx]; exact dec_takeGe h0 (by rw [List.flatten_cons, List.length_append]; omega)
    have hne : (p :: ps).flatten ≠ [] := by
      rw [List.flatten_cons]; exact List.length_pos_iff.1 (by rw [List.length_append]; omega)
    rw [sg_cons hne, hd, List.flatten_cons, ← hlen, List.take_left, List.drop_left, i1]
theorem sg_mid (l : Bs) (a b d : List Bs) (h : sg l = a ++ (b ++ d)) : sg b.flatten = b :=
  (sg_split _ _ _ ((sg_split l _ _ h).2)).1
theorem cl_w0 (cur : Bs) (ws : List Bs) (h : ∀ p ∈ ws, w0 p = true) : cl cur ws = [cur ++ ws.flatten] := by
  induction ws generalizing cur with
  | nil => simp [cl]
  | cons p ps ih =>
    rw [cl, if_pos (h p (List.mem_cons_self ..)), ih _ (fun q hq => h q (List.mem_cons_of_mem _ hq))]; simp
/-- A cluster: its signs, but for the first one, are of width 0. -/
def IsCl (c : Bs) : Prop := ∃ p ws, sg c = p :: ws ∧ ∀ q ∈ ws, w0 q = true
theorem IsCl.cuts {c : Bs} (h : IsCl c) : cuts c = [c] := by
  obtain ⟨p, ws, h1, h2⟩ := h
  have hf := sg_flat c
  rw [h1] at hf
  unfold Proofs.YtfgjhfmgacopoaaDoor.cuts
  rw [h1, cutP, cl_w0 _ _ h2, ← hf]; simp
theorem cl_is (l : Bs) (ps : List Bs) : ∀ (pre : List Bs) (p : Bs) (ws : List Bs), sg l = pre ++ ((p :: ws) ++ ps) → (∀ q ∈ ws, w0 q = true) → ∀ c ∈ cl (p :: ws).flatten ps, IsCl c := by
  induction ps with
  | nil =>
    intro pre p ws h hw c hc
    rw [cl, List.mem_singleton] at hc
    subst hc
    exact ⟨p, ws, sg_mid l pre (p :: ws) [] h, hw⟩
  | cons q ps ih =>
    intro pre p ws h hw c hc
    rw [cl] at hc
    split at hc
    · rename_i hq
      refine ih pre p (ws ++ [q]) (by rw [h]; simp) (fun x hx => ?_) c (by simpa using hc)
      rcases List.mem_append.1 hx with e | e
      · exact hw x e
      · rw [List.mem_singleton] at e; rw [e]; exact hq
    · rcases List.mem_cons.1 hc with e | e
      · subst e
        exact ⟨p, ws, sg_mid l pre (p :: ws) (q :: ps) h, hw⟩
      · exact ih (pre ++ (p :: ws)) q [] (by rw [h]; simp) (fun x hx => by cases hx) c (by simpa using e)
theorem cuts_is {l : Bs} {c : Bs} (h : c ∈ cuts l) : IsCl c := by
  by_cases h0 : l = []
  · subst h0; rw [cuts_nil] at h; cases h
  · rw [cuts_cons h0] at h
    exact cl_is l _ [] _ [] (by rw [sg_cons h0]; rfl) (fun x hx => by cases hx) c (by simpa using h)
/-- Clusters, each cut again, are themselves. -/
theorem cuts_again {l : Bs} {c : Bs} (h : c ∈ cuts l) : cuts c = [c] := (cuts_is h).cuts
/-! What is shown. -/
theorem runes_sg (l : Bs) : runes l = (sg l).map (fun p => (dec p).1) := by
  suffices H : ∀ n (l : Bs), l.length ≤ n → runes l = (sg l).map (fun p => (dec p).1) from H _ l (Nat.le_refl _)
  intro n
  induction n with
  | zero => intro l h; have : l = [] := List.eq_nil_of_length_eq_zero (by omega); subst this; rw [sg_nil]; rfl
  | succ n ih =>
    intro l h
    by_cases h0 : l = []
    · subst h0; rw [sg_nil]; rfl
    · have := dec_pos l
      rw [sg_cons h0, runes_cons h0, ih _ (by simp; omega), List.map_cons, dec_takeGe h0 (Nat.le_refl _)]
theorem sg_enc (rs : List Nat) (hv : ∀ r ∈ rs, Utf8.valid (r : Int) = true) : sg (rs.flatMap enc) = rs.map enc := by
  induction rs with
  | nil => exact sg_nil
  | cons r rs ih =>
    have hr := hv r (List.mem_cons_self ..)
    have hd := dec_enc hr (rs.flatMap enc)
    have hne : enc r ++ rs.flatMap enc ≠ [] := by simp [enc_ne hr]
    rw [List.flatMap_cons, sg_cons hne, hd, List.take_left, List.drop_left, ih (fun x hx => hv x (List.mem_cons_of_mem _ hx)), List.map_cons]
theorem sg_clean (l : Bs) : sg (clean l) = (runes l).map enc := sg_enc _ (runes_val l)
theorem dec_enc1 {r : Nat} (h : Utf8.valid (r : Int) = true) : dec (enc r) = (r, (enc r).length) := by
  have := dec_enc h []
  rwa [List.append_nil] at this
theorem w0_enc {r : Nat} (h : Utf8.valid (r : Int) = true) : w0 (enc r) = (wof (r : Int) == 0) := by
  have e := congrArg Prod.fst (dec_enc1 h)
  unfold w0
  rw [e]
theorem w0_of {q : Bs} (h : w0 q = true) : (wof ((dec q).1 : Int) == 0) = true := h
/-- Cleaned clusters are clusters. -/
theorem IsCl.clean {c : Bs} (h : IsCl c) : IsCl (clean c) := by
  obtain ⟨p, ws, h1, h2⟩ := h
  have hr := runes_sg c
  have hv := runes_val c
  rw [h1, List.map_cons] at hr
  refine ⟨enc (dec p).1, (ws.map fun p => (dec p).1).map enc, by rw [sg_clean, hr, List.map_cons], fun q hq => ?_⟩
  obtain ⟨r, hr2, e⟩ := List.mem_map.1 hq
  obtain ⟨x, hx, e2⟩ := List.mem_map.1 hr2
  have hvx := hv r (by rw [hr]; exact List.mem_cons_of_mem _ hr2)
  have hz := w0_of (h2 x hx)
  rw [← e, w0_enc hvx, ← e2]
  exact hz
theorem clean_ne {c : Bs} (h : c ≠ []) : Proofs.YtfgjhfmgacopoaaDoor.clean c ≠ [] ∧ (dec (Proofs.YtfgjhfmgacopoaaDoor.clean c)).1 = (dec c).1 := by
  have hr := runes_cons h
  have hv := dec_val c
  unfold Proofs.YtfgjhfmgacopoaaDoor.clean
  rw [hr, List.flatMap_cons]
  exact ⟨by simp [enc_ne hv], by rw [dec_enc hv]⟩
theorem val_wrong : Utf8.valid ((65533 : Nat) : Int) = true := (valid_iff _).2 (by omega)
theorem rb_wrong' : rb 65533 = wrongB := by decide
theorem wrong_enc : wrongB = enc 65533 := by
  have h := rb_wrong'
  unfold rb at h
  rw [if_pos ((valid_iff _).2 (by omega))] at h
  rw [enc_eq val_wrong, ← h]; rfl
theorem wrong_is : IsCl wrongB := by
  have h := sg_enc [65533] (fun r hr => by rw [List.mem_singleton] at hr; subst hr; exact val_wrong)
  simp only [List.flatMap_cons, List.flatMap_nil, List.append_nil, List.map_cons, List.map_nil] at h
  rw [← wrong_enc] at h
  exact ⟨wrongB, [], h, fun q hq => by cases hq⟩
theorem wrong_dec : (dec wrongB).1 = 65533 := by rw [wrong_enc, dec_enc1 val_wrong]
theorem shown_is {c : Bs} (h : IsCl c) (h0 : c ≠ []) : IsCl (shown c) := by
  unfold shown
  rw [if_neg h0]
  split
  · exact wrong_is
  · exact h.clean
theorem wof_ctl {r : Int} (h : ctl r = true) : wof r = 1 := by
  unfold ctl at h
  unfold wof
  simp only [Bool.or_eq_true, Bool.and_eq_true, decide_eq_true_eq] at h
  have h1 : isIn noneL r = false := by
    simp only [isIn, noneL, List.any_cons, List.any_nil, Bool.or_false, Bool.or_eq_false_iff, Bool.and_eq_false_iff, decide_eq_false_iff_not]
    omega
  have h2 : isIn wideL r = false := by
    simp only [isIn, wideL, List.any_cons, List.any_nil, Bool.or_false, Bool.or_eq_false_iff, Bool.and_eq_false_iff, decide_eq_false_iff_not]
    omega
  rw [h1, h2]; rfl
theorem wid_shown {c : Bs} (h0 : c ≠ []) : wid (shown c) = wid c := by
  unfold shown
  rw [if_neg h0]
  split
  · rename_i hb
    have hw : wrongB ≠ [] := by decide
    unfold wid
    rw [if_neg hw, if_neg h0, wrong_dec]
    have e1 : wof ((65533 : Nat) : Int) = 1 := by decide
    rw [e1]
    unfold bad at hb
    simp only [Bool.or_eq_true, beq_iff_eq] at hb
    rcases hb with e | e
    · rw [e]; rfl
    · rw [wof_ctl e]
  · obtain ⟨a, b⟩ := clean_ne h0
    unfold wid
    rw [if_neg a, if_neg h0, b]
end Go.Proofs.YtfgjhfmgacopoaaDoor
namespace Go.Proofs.YtfgjhfmgacopoaaDoor
open Go.RowKit
/-! Clusters of two texts, put together. -/
theorem sg_encs (rs : List Nat) (hv : ∀ r ∈ rs, Utf8.valid (r : Int) = true) (t : Bs) : sg (rs.flatMap enc ++ t) = rs.map enc ++ sg t := by
  induction rs with
  | nil => rfl
  | cons r rs ih =>
    have hr := hv r (List.mem_cons_self ..)
    have hd := dec_enc hr (rs.flatMap enc ++ t)
    have hne : enc r ++ (rs.flatMap enc ++ t) ≠ [] := by simp [enc_ne hr]
    rw [List.flatMap_cons, List.append_assoc, sg_cons hne, hd, List.take_left, List.drop_left, ih (fun x hx => hv x (List.mem_cons_of_mem _ hx)), List.map_cons, List.cons_append]
theorem sg_clean_app (a t : Bs) : sg (clean a ++ t) = sg (clean a) ++ sg t := by
  rw [sg_clean]; exact sg_encs _ (runes_val a) t
theorem cl_new (cur : Bs) (ps : List Bs) (q : Bs) (qs : List Bs) (h : w0 q = false) : cl cur (ps ++ q :: qs) = cl cur ps ++ cl q qs := by
  induction ps generalizing cur with
  | nil => rw [List.nil_append, show cl cur (q :: qs) = if w0 q then cl (cur ++ q) qs else cur :: cl q qs from rfl, if_neg (by rw [h]; simp)]; rfl
  | cons p ps ih =>
    rw [List.cons_append, cl, cl]
    split
    · exact ih _
    · rw [ih, List.cons_append]
theorem cl_more (cur : Bs) (c : Bs) (qs : List Bs) : cl (cur ++ c) qs = (cur ++ (cl c qs).headD []) :: (cl c qs).tail := by
  induction qs generalizing c with
  | nil => rfl
  | cons q qs ih =>
    rw [cl, cl]
    split
    · rw [List.append_assoc]; exact ih _
    · rfl
theorem cl_old (cur : Bs) (ps : List Bs) (q : Bs) (qs : List Bs) (h : w0 q = true) : cl cur (ps ++ q :: qs) = (cl cur ps).dropLast ++ (((cl cur ps).getLastD []) ++ (cl q qs).headD []) :: (cl q qs).tail := by
  induction ps generalizing cur with
  | nil => rw [List.nil_append, show cl cur (q :: qs) = if w0 q then cl (cur ++ q) qs else cur :: cl q qs from rfl, if_pos h, cl_more]; rfl
  | cons p ps ih =>
    rw [List.cons_append, cl, cl]
    split
    · exact ih _
    · rw [ih]
      cases hc : cl p ps with
      | nil => exact absurd hc (cl_ne _ _)
      | cons d ds => simp
/-- What begins with a sign that takes a column makes clusters of its own. -/
theorem cuts_app {a t : Bs} (h : t = [] ∨ wof ((dec t).1 : Int) ≠ 0 ∨ clean a = []) : cuts (clean a ++ t) = cuts (clean a) ++ cuts t := by
  by_cases ht : t = []
  · subst ht; rw [cuts_nil]; simp
  by_cases ha : clean a = []
  · rw [ha, cuts_nil]; rfl
  have hw : wof ((dec t).1 : Int) ≠ 0 := by
    rcases h with e | e | e
    · exact absurd e ht
    · exact e
    · exact absurd e ha
  unfold cuts
  rw [sg_clean_app, sg_cons ha, sg_cons ht, List.cons_append, cutP, cutP, cutP]
  refine cl_new _ _ _ _ ?_
  unfold w0
  rw [dec_takeGe ht (Nat.le_refl _)]
  simpa using hw
theorem cuts_join {a t : Bs} (ht : t ≠ []) (ha : clean a ≠ []) (hw : wof ((dec t).1 : Int) = 0) : cuts (clean a ++ t) = (cuts (clean a)).dropLast ++ (((cuts (clean a)).getLastD []) ++ (cuts t).headD []) :: (cuts t).tail := by
  unfold cuts
  rw [sg_clean_app, sg_cons ha, sg_cons ht, List.cons_append, cutP, cutP, cutP]
  refine cl_old _ _ _ _ ?_
  unfold w0
  rw [dec_takeGe ht (Nat.le_refl _), hw]; rfl
theorem wsum_app (a b : List Bs) : wsum (a ++ b) = wsum a + wsum b := by simp [wsum]
theorem dec_dot (t : Bs) : (dec (46 :: t)).1 = 46 := by
  have h := dec_enc (r := 46) ((valid_iff _).2 (by omega)) t
  have e : enc 46 = [46] := by rw [enc_eq ((valid_iff _).2 (by omega))]; decide
  rw [e] at h
  exact congrArg Prod.fst h
theorem wof_dot : wof ((46 : Nat) : Int) ≠ 0 := by decide
theorem sums (a b : Bs) : wsum (cuts (clean a ++ 46 :: b)) = wsum (cuts (clean a)) + wsum (cuts (46 :: b)) := by
  rw [cuts_app (.inr (.inl (by rw [dec_dot]; exact wof_dot))), wsum_app]
end Go.Proofs.YtfgjhfmgacopoaaDoor
