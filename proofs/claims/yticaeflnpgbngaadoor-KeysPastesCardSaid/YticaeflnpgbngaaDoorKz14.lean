import Derived.Test.YticaeflnpgbngaaDoorKz9
import Derived.Shelf.Vars
namespace Go.Proofs.YticaeflnpgbngaaDoor
set_option linter.unusedVariables false
set_option linter.unusedSimpArgs false
open Go.RowKit Go.Maps Go.Shelf
/-! KeysPastes: plain. -/
def e5 : Bs := [27, 91, 50, 48, 49]
theorem no_end {b : Bs} (h : Lib.contains b endB = false) : ∀ k, ¬ endAt b k := by
  intro k ⟨h1, h2⟩
  have h3 := of_decide_eq_false h
  rcases Lib.index_spec b endB with ⟨_, h4⟩ | ⟨i, h4, _⟩
  · have h5 := h4 k (by omega)
    unfold Lib.occAt at h5
    have h6 : endB.isPrefixOf (b.drop k) = true := by
      rw [List.isPrefixOf_iff_prefix, ← h2]
      exact List.take_prefix _ _
    rw [h6] at h5
    cases h5
  · rw [h4] at h3
    omega
structure Pa (d : Dc) (p : Bs) : Prop where
  ph : d.ph = 4
  f : d.f = []
  mn : d.mn = p.length
  sq : d.sq = p.take 1200
  tl : d.tl = p.drop (p.length - 6)
theorem endAt_pre {p r : Bs} {k : Nat} (h : endAt p k) : endAt (p ++ r) k := by
  obtain ⟨h1, h2⟩ := h
  refine ⟨by rw [List.length_append]; omega, ?_⟩
  rw [List.drop_append_of_le_length (by omega), List.take_append_of_le_length (by rw [List.length_drop]; omega)]
  exact h2
theorem pa_step {d : Dc} {p : Bs} (h : Pa d p) (x : UInt8) : (pasteD { d with ag := 0 } x).tl = (p ++ [x]).drop ((p ++ [x]).length - 6) ∧ Pa (pasteD { d with ag := 0 } x) (p ++ [x]) ∧ putD d x = pastedD { d with ag := 0 } x := by
  have ht : (pasteD { d with ag := 0 } x).tl = (p ++ [x]).drop ((p ++ [x]).length - 6) := by
    show (d.tl ++ [x]).drop ((d.tl ++ [x]).length - 6) = _
    rw [h.tl, last_snoc]
  refine ⟨ht, ⟨h.ph, h.f, ?_, ?_, ht⟩, ?_⟩
  · show d.mn + 1 = _
    rw [h.mn]; simp
  · show (if d.mn + 1 ≤ 1200 then d.sq ++ [x] else d.sq) = _
    rw [take_snoc, h.mn, h.sq]
  · unfold putD
    rw [if_neg (by rw [h.ph]; decide), if_neg (by rw [h.ph]; decide), if_neg (by rw [h.ph]; decide), if_pos h.ph]
theorem tl_end {q : Bs} (h : q.drop (q.length - 6) = endB) : endAt q (q.length - 6) := by
  have h1 := congrArg List.length h
  rw [List.length_drop, show endB.length = 6 from rfl] at h1
  exact ⟨by omega, by rw [List.take_of_length_le (by rw [List.length_drop]; omega)]; exact h⟩
theorem feed_pa : (q : Bs) → {d : Dc} → {p : Bs} → Pa d p → (∀ k, ¬ endAt (p ++ q) k) → ∃ d', feedD d q = ([], d') ∧ Pa d' (p ++ q)
  | [], d, p, h, _ => ⟨d, rfl, by rw [List.append_nil]; exact h⟩
  | x :: q, d, p, h, hn => by
      obtain ⟨h1, h2, h3⟩ := pa_step h x
      have e : p ++ x :: q = (p ++ [x]) ++ q := by simp
      have hne : (pasteD { d with ag := 0 } x).tl ≠ endB := fun e9 => by
        rw [h1] at e9
        have := endAt_pre (r := q) (tl_end e9)
        rw [← e] at this
        exact hn _ this
      have hp : putD d x = ([], pasteD { d with ag := 0 } x) := by rw [h3]; unfold pastedD; rw [if_neg hne]
      obtain ⟨d', f1, f2⟩ := feed_pa q h2 (by rw [← e]; exact hn)
      refine ⟨d', ?_, by rw [e]; exact f2⟩
      rw [feedD, hp]
      dsimp only
      rw [f1]
      rfl
theorem beg_new : feedD Dc.new begB = ([], ⟨4, [], [], 0, [], 0⟩) := by decide +kernel
theorem paste_law {d : Dc} (h : RelD d []) (s : Bs) (hs : s.length ≤ 1200) (hn : Lib.contains (s ++ e5) endB = false) : feedD d (begB ++ s ++ endB) = ([⟨26, pl s⟩], Dc.new) := by
  have hd : feedD d (begB ++ s ++ endB) = feedD Dc.new (begB ++ s ++ endB) := by
    have e : begB ++ s ++ endB = 27 :: ([91, 50, 48, 48, 126] ++ s ++ endB) := rfl
    rw [e, feedD, feedD, put_new h]
  have e2 : begB ++ s ++ endB = begB ++ ((s ++ e5) ++ [126]) := by simp [endB, e5]
  have hP : Pa ⟨4, [], [], 0, [], 0⟩ [] := ⟨rfl, rfl, rfl, rfl, rfl⟩
  obtain ⟨d', f1, f2⟩ := feed_pa (s ++ e5) hP (by rw [List.nil_append]; exact no_end hn)
  rw [List.nil_append] at f2
  obtain ⟨g1, _, g3⟩ := pa_step f2 126
  have hq : (s ++ e5) ++ [126] = s ++ endB := by simp [endB, e5]
  rw [hq] at g1
  have hql : (s ++ endB).length - 6 = s.length := by rw [List.length_append, show endB.length = 6 from rfl]; omega
  rw [hql, List.drop_left' rfl] at g1
  have hput : putD d' 126 = ([⟨26, pl s⟩], Dc.new) := by
    rw [g3]
    unfold pastedD
    rw [if_pos g1]
    have hsq : (pasteD { d' with ag := 0 } 126).sq = (s ++ endB).take 1200 := by
      show (if d'.mn + 1 ≤ 1200 then d'.sq ++ [126] else d'.sq) = _
      rw [← hq, take_snoc, f2.mn, f2.sq]
    have hmn : ({ d' with ag := 0 } : Dc).mn + 1 - 6 = s.length := by
      show d'.mn + 1 - 6 = s.length
      rw [f2.mn, List.length_append, show e5.length = 5 from rfl]; omega
    have hto : ({ d' with ag := 0 } : Dc).to 0 = Dc.new := by
      unfold Dc.to Dc.new
      dsimp only
      rw [f2.f]
    rw [hsq, hmn, hto, Nat.min_eq_left hs, List.take_take, Nat.min_eq_left hs, List.take_left' rfl]
  rw [hd, e2, feedD_app, beg_new]
  dsimp only
  rw [feedD_app, f1]
  dsimp only
  rw [feedD_one, hput]
  rfl
end Go.Proofs.YticaeflnpgbngaaDoor
