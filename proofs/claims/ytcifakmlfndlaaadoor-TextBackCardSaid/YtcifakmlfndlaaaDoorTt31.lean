import Derived.Test.YtcifakmlfndlaaaDoorTt23
namespace Go.Proofs.YtcifakmlfndlaaaDoor
set_option linter.unusedVariables false
set_option linter.unusedSimpArgs false
open Go.RowKit Go.Shelf
/-! What was inserted, cut again; what was cut, inserted again. -/
theorem cnt_app {a t : Bs} (ha : Pl a) : cuts (a ++ t) = cuts a ++ cuts t ∨ (cuts (a ++ t)).length + 1 = (cuts a).length + (cuts t).length := by
  have hc := ha.clean
  by_cases h : t = [] ∨ wof ((dec t).1 : Int) ≠ 0 ∨ clean a = []
  · have := cuts_app h
    rw [hc] at this
    exact .inl this
  · have h1 : t ≠ [] := fun e => h (.inl e)
    have h2 : clean a ≠ [] := fun e => h (.inr (.inr e))
    have h3 : wof ((dec t).1 : Int) = 0 := Classical.byContradiction fun e => h (.inr (.inl e))
    have := cuts_join h1 h2 h3
    rw [hc] at this h2
    have p1 := List.length_pos_iff.2 (cuts_ne h2)
    have p2 := List.length_pos_iff.2 (cuts_ne h1)
    right
    rw [this, List.length_append, List.length_cons, List.length_dropLast, List.length_tail]
    omega
theorem cnt_two (S : Bs) (k : Nat) : (cuts S).length = (cuts (S.take (off (cuts S) k))).length + (cuts (S.drop (off (cuts S) k))).length := by
  have h1 := (cuts_mid S 0 k).1
  have h2 := (cuts_mid S k (cuts S).length).1
  rw [List.take_of_length_le (by rw [List.length_drop]; omega)] at h2
  rw [List.drop_zero] at h1
  rw [cut_take, cut_drop, h1, h2, ← List.length_append, List.take_append_drop]
theorem ins_back {S T : Bs} (hS : Pl S) (hT : Pl T) {k : Nat} (h : (cuts (insS S T (off (cuts S) k))).length = (cuts S).length + (cuts T).length) :
    back (insS S T (off (cuts S) k)) (off (cuts S) k : Int) = off (cuts S) k := by
  have h2 := cnt_two S k
  have hp := hS.take k
  have hl : (S.take (off (cuts S) k)).length = off (cuts S) k := by rw [List.length_take]; have := off_le S k; omega
  unfold insS at h ⊢
  rw [List.append_assoc] at h ⊢
  generalize S.take (off (cuts S) k) = a at *
  generalize S.drop (off (cuts S) k) = b at *
  rcases cnt_app (t := T ++ b) hp with e | e
  · rw [← hl]
    have ho : off (cuts (a ++ (T ++ b))) (cuts a).length = a.length := by
      unfold off
      rw [e, List.take_left, cuts_flat]
    have hb := back_off (a ++ (T ++ b)) (k := (cuts a).length) (by rw [e, List.length_append]; omega)
    rw [ho] at hb
    exact hb
  · have : (cuts (T ++ b)).length ≤ (cuts T).length + (cuts b).length := by
      rcases cnt_app (t := b) hT with e2 | e2
      · rw [e2, List.length_append]; exact Nat.le_refl _
      · omega
    omega
theorem mk_of {S : Bs} (h : mkS S = S) : Pl S ∧ S.length ≤ 600 := by
  have h1 := mkS_pl S
  have h2 := mkS_len S
  rw [h] at h1 h2
  exact ⟨h1, h2⟩
theorem ins_again {S T : Bs} (hS : mkS S = S) (hT : Pl T) (hl : S.length + T.length ≤ 600) {k : Nat} (hk : k ≤ (cuts S).length)
    (hy : on (insS S T (off (cuts S) k)) ((off (cuts S) k : Int) + (T.length : Int)) = off (cuts S) k + T.length)
    (h : (cuts (insS S T (off (cuts S) k))).length = (cuts S).length + (cuts T).length) :
    cutV (insS S T (off (cuts S) k)) ((off (cuts S) k + T.length : Nat) : Int) (off (cuts S) k : Int) ((off (cuts S) k + T.length : Nat) : Int) = .tuple #[bufV S (off (cuts S) k), .string ⟨T.toArray⟩] := by
  have hp := (mk_of hS).1
  have hb := ins_back hp hT h
  have hpl : Pl (insS S T (off (cuts S) k)) := by
    have := ins_pl hp hT (off (cuts S) k : Int)
    rwa [back_off S hk] at this
  have hol := off_le S k
  have hm : mkS (insS S T (off (cuts S) k)) = insS S T (off (cuts S) k) := mkS_id hpl (by rw [ins_len]; omega)
  have hb2 : back (insS S T (off (cuts S) k)) ((off (cuts S) k + T.length : Nat) : Int) = off (cuts S) k + T.length := by
    obtain ⟨j, h1, h2⟩ := on_is (insS S T (off (cuts S) k)) ((off (cuts S) k : Int) + (T.length : Int))
    have := back_off (insS S T (off (cuts S) k)) h1.1
    rw [← h2, hy] at this
    exact this
  unfold cutV
  rw [hm, hb, hb2]
  have hbs := back_off S hk
  generalize off (cuts S) k = A at *
  have hl1 : (S.take A).length = A := by rw [List.length_take]; omega
  by_cases h0 : T = []
  · subst h0
    rw [if_neg (by simp)]
    have : insS S [] A = S := by unfold insS; rw [List.append_nil, List.take_append_drop]
    rw [this]; rfl
  · have hp0 := List.length_pos_iff.2 h0
    rw [if_pos (by omega)]
    have e1 : cutS (insS S T A) A (A + T.length) = S := by
      unfold cutS insS
      rw [List.append_assoc, List.take_left' hl1, ← List.append_assoc, List.drop_left' (by rw [List.length_append, hl1]), List.take_append_drop]
    have e2 : cutG (insS S T A) A (A + T.length) = T := by
      unfold cutG insS
      rw [List.take_left' (by rw [List.length_append, hl1]), List.drop_left' hl1]
    have e3 : cutAt (A + T.length) A (A + T.length) = (A : Int) := by
      unfold cutAt
      rw [if_pos (by omega)]; omega
    rw [e1, e2, e3, hbs]
/-- Cut from the cursor, and inserted again. -/
theorem cut_again {S : Bs} (hS : mkS S = S) {k : Nat} (hk : k ≤ (cuts S).length) (q : Int) :
    ∃ (Z G W : Bs) (z x : Nat), cutV S (off (cuts S) k : Int) (off (cuts S) k : Int) q = .tuple #[bufV Z z, .string ⟨G.toArray⟩] ∧ Z.length ≤ 600 ∧ G.length ≤ 600 ∧
      insV Z G (z : Int) = .tuple #[bufV W x, .int .i64 0] ∧ (z = off (cuts S) k → W = S) ∧ W.length ≤ 600 := by
  obtain ⟨hp, hl⟩ := mk_of hS
  have hol := off_le S k
  have hbs := back_off S hk
  unfold cutV
  rw [hS, hbs]
  obtain ⟨j, hj, hto⟩ := back_is S q
  rw [hto]
  by_cases h : off (cuts S) k < off (cuts S) j
  · rw [if_pos h]
    have hZ : Pl (cutS S (off (cuts S) k) (off (cuts S) j)) := by
      have := cutS_pl hp (off (cuts S) k : Int) q
      rwa [hbs, hto] at this
    have hjl := off_le S j
    have hzl : (cutS S (off (cuts S) k) (off (cuts S) j)).length + (off (cuts S) j - off (cuts S) k) = S.length := by
      unfold cutS; rw [List.length_append, List.length_take, List.length_drop]; omega
    have hkj : k ≤ j := Classical.byContradiction fun e => by have := off_mono (cuts S) (show j ≤ k by omega); omega
    have hG : Pl (cutG S (off (cuts S) k) (off (cuts S) j)) := by
      unfold cutG
      rw [List.drop_take]
      have := hp.mid k (j - k)
      have e : ((List.drop k (cuts S)).take (j - k)).flatten = (S.drop (off (cuts S) k)).take (off (cuts S) j - off (cuts S) k) := by
        rw [cut_drop]
        have h3 := (flat_take ((cuts S).drop k) (j - k)).1
        rw [← h3]
        congr 1
        unfold off
        have h4 : (cuts S).take j = (cuts S).take k ++ ((cuts S).drop k).take (j - k) := by
          rw [← List.drop_take]
          have h5 := List.take_append_drop k ((cuts S).take j)
          rw [List.take_take, Nat.min_eq_left hkj] at h5
          exact h5.symm
        rw [h4, List.flatten_append, List.length_append]; omega
      rw [← e]; exact this
    have hgl : (cutG S (off (cuts S) k) (off (cuts S) j)).length = off (cuts S) j - off (cuts S) k := by
      unfold cutG; rw [List.length_drop, List.length_take]; omega
    have e3 : cutAt (off (cuts S) k) (off (cuts S) k) (off (cuts S) j) = (off (cuts S) k : Int) := by
      unfold cutAt; rw [if_neg (by omega)]
    rw [e3]
    have hmz : mkS (cutS S (off (cuts S) k) (off (cuts S) j)) = cutS S (off (cuts S) k) (off (cuts S) j) := mkS_id hZ (by omega)
    have hpg : pl (cutG S (off (cuts S) k) (off (cuts S) j)) = cutG S (off (cuts S) k) (off (cuts S) j) := hG
    refine ⟨_, _, _, _, _, rfl, by omega, by omega, insV_yes ?_, ?_, ?_⟩
    · unfold insOk; rw [hmz, hpg]; exact decide_eq_true (by omega)
    · intro hz
      rw [hz]
      unfold insT
      rw [hmz, hpg]
      have hbz : back (cutS S (off (cuts S) k) (off (cuts S) j)) (off (cuts S) k : Int) = off (cuts S) k := hz
      rw [hbz]
      have hl1 : (S.take (off (cuts S) k)).length = off (cuts S) k := by rw [List.length_take]; omega
      generalize off (cuts S) k = A at *
      generalize off (cuts S) j = B at *
      unfold insS cutS cutG
      rw [List.take_left' hl1, List.drop_left' hl1]
      have h6 : S.take B = S.take A ++ (S.take B).drop A := by
        have h5 := List.take_append_drop A (S.take B)
        rw [List.take_take, Nat.min_eq_left (by omega)] at h5
        exact h5.symm
      rw [← h6, List.take_append_drop]
    · unfold insT
      rw [ins_len, hmz, hpg]; omega
  · rw [if_neg h]
    refine ⟨S, [], S, off (cuts S) k, insA S [] (off (cuts S) k : Int), rfl, hl, by simp, ?_, fun _ => rfl, hl⟩
    have h1 : insOk S [] = true := by unfold insOk; rw [hS]; exact decide_eq_true (by rw [show pl [] = [] from rfl]; simpa using hl)
    rw [insV_yes h1]
    have h2 : insT S [] (off (cuts S) k : Int) = S := by
      unfold insT insS
      rw [hS, show pl [] = [] from rfl, List.append_nil, List.take_append_drop]
    rw [h2]
end Go.Proofs.YtcifakmlfndlaaaDoor
