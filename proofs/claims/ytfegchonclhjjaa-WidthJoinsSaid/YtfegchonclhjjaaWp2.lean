import Derived.Test.YtfegchonclhjjaaWp
namespace Go.Proofs.Ytfegchonclhjjaa
open Go.RowKit
/-! Clusters of two texts, put together. -/
theorem sg_encs (rs : List Nat) (hv : ∀ r ∈ rs, Utf8.valid (r : Int) = true) (t : Bs) : sg (rs.flatMap enc ++ t) = rs.map enc ++ sg t := by
  induction rs with
  | nil => rfl
  | cons r rs ih =>
    have hr := hv r (List.mem_cons_self ..)
    have hd := dec_enc hr (rs.flatMap enc ++ t)
    have hne : enc r ++ (rs.flatMap enc ++ t) ≠ [] := by simp [enc_ne hr]
    rw [List.flatMap_cons, List.append_assoc, sg_cons hne, hd, List.take_left, List.drop_left, ih (fun x hx => hv x (List.mem_cons_of_mem _ hx)), List.map_cons, List.cons_append]
theorem sg_clean_app (a t : Bs) : sg (clean a ++ t) = sg (clean a) ++ sg t := by
  rw [sg_clean]; exact sg_encs _ (runes_val a) t
theorem cl_new (cur : Bs) (ps : List Bs) (q : Bs) (qs : List Bs) (h : w0 q = false) : cl cur (ps ++ q :: qs) = cl cur ps ++ cl q qs := by
  induction ps generalizing cur with
  | nil => rw [List.nil_append, show cl cur (q :: qs) = if w0 q then cl (cur ++ q) qs else cur :: cl q qs from rfl, if_neg (by rw [h]; simp)]; rfl
  | cons p ps ih =>
    rw [List.cons_append, cl, cl]
    split
    · exact ih _
    · rw [ih, List.cons_append]
theorem cl_more (cur : Bs) (c : Bs) (qs : List Bs) : cl (cur ++ c) qs = (cur ++ (cl c qs).headD []) :: (cl c qs).tail := by
  induction qs generalizing c with
  | nil => rfl
  | cons q qs ih =>
    rw [cl, cl]
    split
    · rw [List.append_assoc]; exact ih _
    · rfl
theorem cl_old (cur : Bs) (ps : List Bs) (q : Bs) (qs : List Bs) (h : w0 q = true) : cl cur (ps ++ q :: qs) = (cl cur ps).dropLast ++ (((cl cur ps).getLastD []) ++ (cl q qs).headD []) :: (cl q qs).tail := by
  induction ps generalizing cur with
  | nil => rw [List.nil_append, show cl cur (q :: qs) = if w0 q then cl (cur ++ q) qs else cur :: cl q qs from rfl, if_pos h, cl_more]; rfl
  | cons p ps ih =>
    rw [List.cons_append, cl, cl]
    split
    · exact ih _
    · rw [ih]
      cases hc : cl p ps with
      | nil => exact absurd hc (cl_ne _ _)
      | cons d ds => simp
/-- What begins with a sign that takes a column makes clusters of its own. -/
theorem cuts_app {a t : Bs} (h : t = [] ∨ wof ((dec t).1 : Int) ≠ 0 ∨ clean a = []) : cuts (clean a ++ t) = cuts (clean a) ++ cuts t := by
  by_cases ht : t = []
  · subst ht; rw [cuts_nil]; simp
  by_cases ha : clean a = []
  · rw [ha, cuts_nil]; rfl
  have hw : wof ((dec t).1 : Int) ≠ 0 := by
    rcases h with e | e | e
    · exact absurd e ht
    · exact e
    · exact absurd e ha
  unfold cuts
  rw [sg_clean_app, sg_cons ha, sg_cons ht, List.cons_append, cutP, cutP, cutP]
  refine cl_new _ _ _ _ ?_
  unfold w0
  rw [dec_takeGe ht (Nat.le_refl _)]
  simpa using hw
theorem cuts_join {a t : Bs} (ht : t ≠ []) (ha : clean a ≠ []) (hw : wof ((dec t).1 : Int) = 0) : cuts (clean a ++ t) = (cuts (clean a)).dropLast ++ (((cuts (clean a)).getLastD []) ++ (cuts t).headD []) :: (cuts t).tail := by
  unfold cuts
  rw [sg_clean_app, sg_cons ha, sg_cons ht, List.cons_append, cutP, cutP, cutP]
  refine cl_old _ _ _ _ ?_
  unfold w0
  rw [dec_takeGe ht (Nat.le_refl _), hw]; rfl
theorem wsum_app (a b : List Bs) : wsum (a ++ b) = wsum a + wsum b := by simp [wsum]
theorem dec_dot (t : Bs) : (dec (46 :: t)).1 = 46 := by
  have h := dec_enc (r := 46) ((valid_iff _).2 (by omega)) t
  have e : enc 46 = [46] := by rw [enc_eq ((valid_iff _).2 (by omega))]; decide
  rw [e] at h
  exact congrArg Prod.fst h
theorem wof_dot : wof ((46 : Nat) : Int) ≠ 0 := by decide
theorem sums (a b : Bs) : wsum (cuts (clean a ++ 46 :: b)) = wsum (cuts (clean a)) + wsum (cuts (46 :: b)) := by
  rw [cuts_app (.inr (.inl (by rw [dec_dot]; exact wof_dot))), wsum_app]
end Go.Proofs.Ytfegchonclhjjaa
