import Derived.Test.YtfgjhfmgacopoaaDoorPu
import Derived.Test.YtfgjhfmgacopoaaDoorWo
namespace Go.Proofs.YtfgjhfmgacopoaaDoor
open Go.RowKit
/-! Clusters, in plain Lean. -/
/-- The bytes of each sign. -/
def sg (l : Bs) : List Bs := if l = [] then [] else l.take (dec l).2 :: sg (l.drop (dec l).2)
termination_by l.length
decreasing_by
  rename_i h
  have := dec_pos l
  have := List.length_pos_iff.2 h
  simp; omega
theorem sg_nil : sg [] = [] := by unfold sg; rfl
theorem sg_cons {l : Bs} (h : l ≠ []) : sg l = l.take (dec l).2 :: sg (l.drop (dec l).2) := by
  conv => lhs; unfold sg
  rw [if_neg h]
def w0 (p : Bs) : Bool := wof ((dec p).1 : Int) == 0
/-- Clusters: cur is the one under way. -/
def cl (cur : Bs) : List Bs → List Bs
  | [] => [cur]
  | p :: ps => if w0 p then cl (cur ++ p) ps else cur :: cl p ps
def cutP : List Bs → List Bs
  | [] => []
  | p :: ps => cl p ps
def cuts (l : Bs) : List Bs := cutP (sg l)
/-- Each with where it begins. -/
def ats : Nat → List Bs → List (Nat × Bs)
  | _, [] => []
  | k, c :: cs => (k, c) :: ats (k + c.length) cs
def bnds : Nat → List Bs → List Nat
  | k, [] => [k]
  | k, c :: cs => k :: bnds (k + c.length) cs
theorem sg_flatten : ∀ (n : Nat) (l : Bs), l.length ≤ n → (sg l).flatten = l := by
  intro n
  induction n with
  | zero => intro l h; have : l = [] := List.eq_nil_of_length_eq_zero (by omega); subst this; rw [sg_nil]; rfl
  | succ n ih =>
    intro l h
    by_cases h0 : l = []
    · subst h0; rw [sg_nil]; rfl
    · have := dec_pos l
      rw [sg_cons h0, List.flatten_cons, ih _ (by simp; omega), List.take_append_drop]
theorem sg_flat (l : Bs) : (sg l).flatten = l := sg_flatten _ l (Nat.le_refl _)
theorem cl_flat (cur : Bs) (ps : List Bs) : (cl cur ps).flatten = cur ++ ps.flatten := by
  induction ps generalizing cur with
  | nil => simp [cl]
  | cons p ps ih =>
    unfold cl
    split
    · rw [ih]; simp
    · rw [List.flatten_cons, ih]; simp
theorem cuts_flat (l : Bs) : (cuts l).flatten = l := by
  have h := sg_flat l
  unfold cuts
  cases hs : sg l with
  | nil => rw [hs] at h; exact h
  | cons p ps => rw [hs] at h; rw [cutP, cl_flat]; exact h
theorem cl_ne (cur : Bs) (ps : List Bs) : cl cur ps ≠ [] := by
  induction ps generalizing cur with
  | nil => simp [cl]
  | cons p ps ih =>
    unfold cl
    split
    · exact ih _
    · simp
theorem cuts_nil : cuts [] = [] := by unfold cuts; rw [sg_nil]; rfl
theorem cuts_ne {l : Bs} (h : l ≠ []) : cuts l ≠ [] := by
  unfold cuts; rw [sg_cons h]; exact cl_ne _ _
theorem cuts_cons {l : Bs} (h : l ≠ []) : cuts l = cl (l.take (dec l).2) (sg (l.drop (dec l).2)) := by
  unfold cuts; rw [sg_cons h]; rfl
theorem cl_nz (cur : Bs) (ps : List Bs) (h : cur ≠ []) (hp : ∀ p ∈ ps, p ≠ []) : ∀ c ∈ cl cur ps, c ≠ [] := by
  induction ps generalizing cur with
  | nil => intro c hc; simp [cl] at hc; rw [hc]; exact h
  | cons p ps ih =>
    intro c hc
    unfold cl at hc
    split at hc
    · exact ih _ (by simp [h]) (fun q hq => hp q (List.mem_cons_of_mem _ hq)) c hc
    · rcases List.mem_cons.1 hc with e | e
      · rw [e]; exact h
      · exact ih _ (hp p (List.mem_cons_self ..)) (fun q hq => hp q (List.mem_cons_of_mem _ hq)) c e
theorem sg_ne (l : Bs) : ∀ p ∈ sg l, p ≠ [] := by
  suffices h : ∀ n (l : Bs), l.length ≤ n → ∀ p ∈ sg l, p ≠ [] from h _ l (Nat.le_refl _)
  intro n
  induction n with
  | zero => intro l h; have : l = [] := List.eq_nil_of_length_eq_zero (by omega); subst this; rw [sg_nil]; simp
  | succ n ih =>
    intro l h p hp
    by_cases h0 : l = []
    · subst h0; rw [sg_nil] at hp; simp at hp
    · have h1 := dec_pos l
      have h2 := List.length_pos_iff.2 h0
      rw [sg_cons h0] at hp
      rcases List.mem_cons.1 hp with e | e
      · rw [e]; exact List.length_pos_iff.1 (by rw [List.length_take]; omega)
      · exact ih _ (by simp; omega) p e
theorem cuts_nz (l : Bs) : ∀ c ∈ cuts l, c ≠ [] := by
  by_cases h : l = []
  · subst h; rw [cuts_nil]; simp
  · rw [cuts_cons h]
    have h1 := dec_pos l
    have h2 := List.length_pos_iff.2 h
    exact cl_nz _ _ (List.length_pos_iff.1 (by rw [List.length_take]; omega)) (sg_ne _)
theorem ats_append (k : Nat) (a b : List Bs) : ats k (a ++ b) = ats k a ++ ats (k + a.flatten.length) b := by
  induction a generalizing k with
  | nil => simp [ats]
  | cons c cs ih => simp [ats, ih, Nat.add_assoc]
theorem ats_snd (k : Nat) (a : List Bs) : (ats k a).map (·.2) = a := by
  induction a generalizing k with
  | nil => rfl
  | cons c cs ih => simp [ats, ih]
theorem ats_len (k : Nat) (a : List Bs) : (ats k a).length = a.length := by
  induction a generalizing k with
  | nil => rfl
  | cons c cs ih => simp [ats, ih]
theorem bnds_ats (k : Nat) (a : List Bs) : bnds k a = (ats k a).map (·.1) ++ [k + a.flatten.length] := by
  induction a generalizing k with
  | nil => simp [bnds, ats]
  | cons c cs ih => simp [bnds, ats, ih, Nat.add_assoc]
theorem flat_ge (cs : List Bs) (h : ∀ c ∈ cs, c ≠ []) : cs.length ≤ cs.flatten.length := by
  induction cs with
  | nil => simp
  | cons c cs ih =>
    have h1 := List.length_pos_iff.2 (h c (List.mem_cons_self ..))
    have h2 := ih fun x hx => h x (List.mem_cons_of_mem _ hx)
    rw [List.flatten_cons, List.length_append, List.length_cons]; omega
theorem cuts_len (l : Bs) : (cuts l).length ≤ l.length := by
  have := flat_ge (cuts l) (cuts_nz l)
  rwa [cuts_flat] at this
theorem ats_mem (k : Nat) (a : List Bs) : ∀ x ∈ ats k a, x.1 + x.2.length ≤ k + a.flatten.length := by
  induction a generalizing k with
  | nil => intro x hx; simp [ats] at hx
  | cons c cs ih =>
    intro x hx
    simp only [ats, List.mem_cons] at hx
    rcases hx with e | e
    · rw [e, List.flatten_cons, List.length_append]; dsimp only; omega
    · have := ih _ x e; rw [List.flatten_cons, List.length_append]; omega
end Go.Proofs.YtfgjhfmgacopoaaDoor
