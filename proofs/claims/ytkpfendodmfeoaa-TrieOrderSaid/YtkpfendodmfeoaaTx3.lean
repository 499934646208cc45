import Derived.Test.YtkpfendodmfeoaaTx2
namespace Go.Proofs.Ytkpfendodmfeoaa
set_option linter.unusedVariables false
set_option linter.unusedSimpArgs false
open Go.RowKit
theorem lput_ldrop : {l : Ents V} → Rise l → (k : Bs) → (v : V) → lput (ldrop l k) k v = lput l k v
  | [], _, k, v => rfl
  | (x, u) :: t, h, k, v => by
      obtain ⟨h1, h2⟩ := List.pairwise_cons.1 h
      have ih := lput_ldrop h2 k v
      by_cases hxk : x = k
      · have hd : ldrop ((x, u) :: t) k = t := by
          have e1 : ldrop ((x, u) :: t) k = ldrop t k := by simp [ldrop, hxk]
          rw [e1]
          exact ldrop_none fun q hq e => by
            have := h1 q hq
            rw [e, ← hxk, ltB_irr] at this; cases this
        rw [hd]
        have hlt : ltB x k = false := by rw [hxk, ltB_irr]
        unfold lput
        rw [if_neg (by rw [hlt]; exact Bool.false_ne_true), if_pos hxk]
        have h3 : ∀ q ∈ t, ltB k q.1 = true := fun q hq => by have := h1 q hq; rwa [hxk] at this
        have := lput_lt (v := v) h3
        unfold lput at this
        exact this
      · have hd : ldrop ((x, u) :: t) k = (x, u) :: ldrop t k := by simp [ldrop, hxk]
        rw [hd]
        by_cases hlt : ltB x k = true
        · show (if ltB x k then (x, u) :: lput (ldrop t k) k v else _) = (if ltB x k then (x, u) :: lput t k v else _)
          rw [if_pos hlt, if_pos hlt, ih]
        · have hgt : ∀ q ∈ t, q.1 ≠ k := fun q hq e => by
            have h3 := h1 q hq
            rw [e] at h3; exact hlt h3
          rw [ldrop_none hgt]
theorem ldrop_rise {l : Ents V} (h : Rise l) (k : Bs) : Rise (ldrop l k) := List.Pairwise.filter _ h
/-- What has been laid: with the new one, or not yet. -/
def PutSt (rest : Ents V) (k : Bs) (v : V) (j : Nat) (done : Bool) (m : Ents V) : Prop :=
  if done then m = lput (rest.take j) k v ∧ ∃ q ∈ rest.take j, ltB k q.1 = true else m = rest.take j ∧ ∀ q ∈ rest.take j, ltB q.1 k = true
theorem take_succ {rest : Ents V} {j : Nat} {q : Bs × V} (hq : rest[j]? = some q) : rest.take (j + 1) = rest.take j ++ [q] := by rw [List.take_add_one, hq]; rfl
theorem PutSt.done {rest : Ents V} {k : Bs} {v : V} {j : Nat} {m : Ents V} (hR : Rise rest) (h : PutSt rest k v j true m) {q : Bs × V} (hq : rest[j]? = some q) : PutSt rest k v (j + 1) true (m ++ [q]) := by
  obtain ⟨h1, p, hp, hlt⟩ := h
  have e := take_succ hq
  have hR2 : Rise (rest.take (j + 1)) := hR.sublist (List.take_sublist _ _)
  rw [e] at hR2
  have hpq := (List.pairwise_append.1 hR2).2.2 p hp q (List.mem_singleton.2 rfl)
  refine ⟨?_, p, by rw [e]; exact List.mem_append_left _ hp, hlt⟩
  rw [e, h1, lput_left _ _ _ _ (fun z hz => by rw [List.mem_singleton.1 hz]; exact ltB_tr _ _ _ hlt hpq)]
theorem PutSt.now {rest : Ents V} {k : Bs} {v : V} {j : Nat} {m : Ents V} (h : PutSt rest k v j false m) {q : Bs × V} (hq : rest[j]? = some q) (hlt : ltB k q.1 = true) : PutSt rest k v (j + 1) true (m ++ [(k, v)] ++ [q]) := by
  obtain ⟨h1, h2⟩ := h
  have e := take_succ hq
  refine ⟨?_, q, by rw [e]; exact List.mem_append_right _ (List.mem_singleton.2 rfl), hlt⟩
  rw [e, lput_right _ _ _ _ h2, lput_lt (fun z hz => by rw [List.mem_singleton.1 hz]; exact hlt), h1]
  simp
theorem PutSt.not_yet {rest : Ents V} {k : Bs} {v : V} {j : Nat} {m : Ents V} (h : PutSt rest k v j false m) {q : Bs × V} (hq : rest[j]? = some q) (hne : q.1 ≠ k) (hlt : ltB k q.1 = false) : PutSt rest k v (j + 1) false (m ++ [q]) := by
  obtain ⟨h1, h2⟩ := h
  have e := take_succ hq
  refine ⟨by rw [e, h1], fun p hp => ?_⟩
  rw [e] at hp
  rcases List.mem_append.1 hp with hp | hp
  · exact h2 p hp
  · rw [List.mem_singleton.1 hp]
    rcases ltB_tri q.1 k with h | h | h
    · exact h
    · exact absurd h hne
    · rw [h] at hlt; cases hlt
theorem bytesLess_eq : (a b : Bs) → Op.bytesLess a b = ltB a b
  | [], [] => by simp [Op.bytesLess, ltB]
  | [], _ :: _ => by simp [Op.bytesLess, ltB]
  | _ :: _, [] => by simp [Op.bytesLess, ltB]
  | x :: a, y :: b => by
      have := bytesLess_eq a b
      rw [Bool.eq_iff_iff]
      simp [Op.bytesLess, ltB, this, UInt8.lt_iff_toNat_lt]
theorem less_of {p q : ByteArray} {a b : Bs} (hp : p = ⟨a.toArray⟩) (hq : q = ⟨b.toArray⟩) : Op.bytesLess p.toList q.toList = ltB a b := by
  subst hp; subst hq
  rw [ByteArray.toList_eq, ByteArray.toList_eq]
  exact bytesLess_eq a b
set_option maxHeartbeats 3200000 in
/-- The document's Put. -/
theorem rPut_calls (w : World) (B : Nat) (v : Value) (l : Ents V) (hr : PR w B v l) (hN : l.length ≤ 1073741824) (hRi : Rise l) (s : ByteArray) (k : Bs) (hs : s = ⟨k.toArray⟩) (x : V) :
    Calls Try.prog 13 #[v, .string s, encV x] w fun e w' => ∃ v', e = .returned v' ∧ PR w' w.heap.size v' (lput l k x) ∧ Below w.heap.size w w' := by
  have hd := rDrop_calls w B v l hr hN s k hs
  have HD := Lib.hid hd
  have HS := Lib.hid hs
  have HRI := Lib.hid hRi
  have hRr := ldrop_rise hRi k
  have hne : ∀ q ∈ ldrop l k, q.1 ≠ k := fun q hq => by
    have := (List.mem_filter.1 hq).2
    simpa using this
  have hrl : (ldrop l k).length ≤ l.length := List.length_filter_le _ _
  obtain ⟨rest, hrest⟩ : ∃ rest, rest = ldrop l k := ⟨_, rfl⟩
  rw [← hrest] at HD hRr hne hrl
  have HREST := Lib.hid hrest
  have HNE := Lib.hid hne
  have HRR := Lib.hid hRr
  clear hd hs hrest hr hRi hne hRr
  go_enter Try.func13, Try.ntmps13
  go_wp2_with fail
  refine HD.out.mono ?_
  rintro e w1 ⟨v1, rfl, hr1, hb1⟩
  obtain ⟨A, c, rfl, _⟩ := hr1.rd
  have hblk : ∀ g, (Value.slice A rest.length c).ownBlock = some g → g < w1.heap.size := fun g hg => (Row.lt hr1 g hg).2
  have HR1 := Lib.hid hr1
  have HB1 := Lib.hid hb1
  have hw1 := hb1.size
  clear hr1 hb1 HD
  go_wp2
  go_loopw [7, 9, 10] (fun u7 u9 u10 wr => ∃ (j : Nat) (d : Bool) (m : Ents V), u10 = n64 j ∧ u9 = .bool d ∧ j ≤ rest.length ∧ PR wr w1.heap.size u7 m ∧ PutSt rest k x j d m ∧ m.length ≤ j + 1 ∧ Below w1.heap.size w1 wr) (fun _ _ u10 _ => (rest.length - intOf u10).toNat)
  case atStart => exact ⟨0, false, [], rfl, rfl, Nat.zero_le _, PR.nil _ _, ⟨rfl, by simp⟩, by simp, Below.refl _ _⟩
  case round =>
    obtain ⟨j, d, m, rfl, rfl, hj, hm, hst, hml, hb⟩ := hrel
    have hRw : PR wr w.heap.size (.slice A rest.length c) rest := Row.at_ HR1.out fun g hg => hb.block g (hblk g hg)
    by_cases hlt : j < rest.length
    · obtain ⟨q, hq⟩ : ∃ q, rest[j]? = some q := ⟨_, List.getElem?_eq_getElem hlt⟩
      obtain ⟨g, off, rfl, c1, c2⟩ := hRw.at hq
      obtain ⟨sq, hsq⟩ : ∃ sq : ByteArray, sq = ⟨q.1.toArray⟩ := ⟨_, rfl⟩
      have hlit := lit_of hsq
      rw [hlit] at c1
      have b1 : (j : Int) < (rest.length : Int) := by omega
      have HB := Lib.hid hb
      have HM := Lib.hid hm
      have HQ := Lib.hid hq
      have HSQ := Lib.hid hsq
      have HST := Lib.hid hst
      have hbs := hb.size
      clear hb hm hq hsq hst hRw
      have hbe : (sq.toList == s.toList) = false := by rw [str_beq HSQ.out HS.out]; exact decide_eq_false (HNE.out q (List.mem_of_getElem? HQ.out))
      have hbl := less_of HSQ.out HS.out
      cases d with
      | false =>
        by_cases hgt : ltB q.1 k = true
        · rw [hgt] at hbl
          have hst2 := HST.out.not_yet HQ.out (HNE.out q (List.mem_of_getElem? HQ.out)) (ltB_asym hgt)
          have HST2 := Lib.hid hst2
          clear hst2
          go_wp2_with (at_builtin; refine wpList_append_row _ rfl _ _ 26 rfl w1.heap.size 65 2 24 _ Try.underlying26 Try.info_pair rfl (by decide) _ _ _ rfl (Row.alloc HM.out _) (some ⟨wr.heap.size, 0, none⟩) 1 1 [.string sq, .int .i64 q.2] rfl rfl (by have := Rd.newRow wr #[.string sq, encV q.2] 65; exact this) (by intro u hu; simp at hu; rcases hu with rfl | rfl <;> rfl) (by omega) (by simp only [maxLen]; omega) (by simp; omega) ?_; intro A' c' w' hrow hg hob)
          rw [← hlit] at hrow
          obtain ⟨p1, p2⟩ := PR.more HM.out HB.out hrow hg
          go_roundw
          case rel => exact ⟨j + 1, false, m ++ [q], by go_num, rfl, by omega, p1, HST2.out, by simp; omega, p2⟩
          case measure => simp [intOf]; omega
        · have hgt2 : ltB k q.1 = true := by
            rcases ltB_tri q.1 k with h | h | h
            · exact absurd h hgt
            · exact absurd h (HNE.out q (List.mem_of_getElem? HQ.out))
            · exact h
          have hgt : ltB q.1 k = false := by simpa using hgt
          rw [hgt] at hbl
          have hmj : m.length ≤ j := by rw [HST.out.1, List.length_take]; omega
          have hst2 := HST.out.now HQ.out hgt2
          have HST2 := Lib.hid hst2
          clear hst2
          have HKS := Lib.hid (show str k = Value.string s from lit_of HS.out)
          have hcq : ∀ w', Below w1.heap.size w1 w' → w'.cell? ⟨g, off + j * 2, none⟩ = some (.string sq) ∧ w'.cell? ⟨g, off + j * 2 + 1, none⟩ = some (encV q.2) := fun w' hb => by
            have hr : PR w' w.heap.size (.slice (some ⟨g, off, none⟩) rest.length c) rest := Row.at_ HR1.out fun g' hg => hb.block g' (hblk g' hg)
            obtain ⟨g2, off2, e, d1, d2⟩ := hr.at HQ.out
            cases e
            rw [hlit] at d1
            exact ⟨d1, d2⟩
          have HCQ := Lib.hid hcq
          clear hcq
          go_wp2_with (first
            | (at_builtin; refine wpList_append_row _ rfl _ _ 26 rfl w1.heap.size 65 2 24 _ Try.underlying26 Try.info_pair rfl (by decide) _ _ _ rfl (Row.alloc HM.out _) (some ⟨wr.heap.size, 0, none⟩) 1 1 [.string s, encV x] rfl rfl (by have := Rd.newRow wr #[.string s, encV x] 65; exact this) (by intro u hu; simp at hu; rcases hu with rfl | rfl <;> rfl) (by simp at *; omega) (by simp only [maxLen]; simp at *; omega) (by simp at *; omega) ?_; intro A' c' w' hrow hg hob; rw [← HKS.out] at hrow; obtain ⟨p1, p2⟩ := PR.more (q := (k, x)) HM.out HB.out hrow hg; have hgs := p2.size; have cq1 : w'.cell? ⟨g, off + j * 2, none⟩ = some (.string sq) := (by have := HCQ.out w' p2; exact this.1); have cq2 : w'.cell? ⟨g, off + j * 2 + 1, none⟩ = some (encV q.2) := (HCQ.out w' p2).2; have HP1 := Lib.hid p1; have HP2 := Lib.hid p2; clear hrow p1 p2 hg hob)
            | (at_builtin; refine wpList_append_row _ rfl _ _ 26 rfl w1.heap.size 65 2 24 _ Try.underlying26 Try.info_pair rfl (by decide) _ _ _ rfl (Row.alloc HP1.out _) (some ⟨w'.heap.size, 0, none⟩) 1 1 [.string sq, .int .i64 q.2] rfl rfl (by have := Rd.newRow w' #[.string sq, .int .i64 q.2] 65; exact this) (by intro u hu; simp at hu; rcases hu with rfl | rfl <;> rfl) (by simp at *; omega) (by simp only [maxLen]; simp at *; omega) (by simp at *; omega) ?_; intro A2 c2' w2 hrow hg hob; rw [← hlit] at hrow; obtain ⟨p3, p4⟩ := PR.more HP1.out HP2.out hrow hg))
          go_roundw
          case rel => exact ⟨j + 1, true, m ++ [(k, x)] ++ [q], by go_num, rfl, by omega, by rw [show m.length + 1 + 1 = (m ++ [(k, x)]).length + 1 by simp]; exact p3, HST2.out, by simp; omega, p4⟩
          case measure => simp [intOf]; omega
      | true =>
        have hst2 := HST.out.done HRR.out HQ.out
        have HST2 := Lib.hid hst2
        clear hst2 hbe hbl
        go_wp2_with (at_builtin; refine wpList_append_row _ rfl _ _ 26 rfl w1.heap.size 65 2 24 _ Try.underlying26 Try.info_pair rfl (by decide) _ _ _ rfl (Row.alloc HM.out _) (some ⟨wr.heap.size, 0, none⟩) 1 1 [.string sq, .int .i64 q.2] rfl rfl (by have := Rd.newRow wr #[.string sq, encV q.2] 65; exact this) (by intro u hu; simp at hu; rcases hu with rfl | rfl <;> rfl) (by omega) (by simp only [maxLen]; omega) (by simp; omega) ?_; intro A' c' w' hrow hg hob)
        rw [← hlit] at hrow
        obtain ⟨p1, p2⟩ := PR.more HM.out HB.out hrow hg
        go_roundw
        case rel => exact ⟨j + 1, true, m ++ [q], by go_num, rfl, by omega, p1, HST2.out, by simp; omega, p2⟩
        case measure => simp [intOf]; omega
    · have b1 : ¬ (j : Int) < (rest.length : Int) := by omega
      have hjl : j = rest.length := by omega
      subst hjl
      have HB := Lib.hid hb
      have HM := Lib.hid hm
      have HST := Lib.hid hst
      have hbs := hb.size
      have hfin : lput rest k x = lput l k x := by rw [HREST.out, lput_ldrop HRI.out]
      have HFIN := Lib.hid hfin
      have hpr : ∀ (w' : World) (v' : Value) (m' : Ents V), PR w' w1.heap.size v' m' → m' = lput rest k x → Below w1.heap.size w1 w' → PR w' w.heap.size v' (lput l k x) ∧ Below w.heap.size w w' := fun w' v' m' h e hb => by
        rw [← HFIN.out, ← e]
        exact ⟨Row.mono h hw1, HB1.out.trans (hb.mono hw1)⟩
      have HPR := Lib.hid hpr
      clear hb hm hst hRw hfin hpr
      cases d with
      | true =>
        have h1 := HST.out.1
        rw [List.take_length] at h1
        have H1 := Lib.hid h1
        clear h1
        go_wp2
        go_ret
        exact ⟨_, rfl, HPR.out _ _ _ HM.out H1.out HB.out⟩
      | false =>
        obtain ⟨h1, h2⟩ := HST.out
        rw [List.take_length] at h1 h2
        have h3 : m ++ [(k, x)] = lput rest k x := by
          have := lput_right rest [] k x h2
          rw [List.append_nil] at this
          rw [this, h1]; rfl
        have H3 := Lib.hid h3
        have HKS := Lib.hid (show str k = Value.string s from lit_of HS.out)
        clear h1 h2 h3
        go_wp2_with (at_builtin; refine wpList_append_row _ rfl _ _ 26 rfl w1.heap.size 65 2 24 _ Try.underlying26 Try.info_pair rfl (by decide) _ _ _ rfl (Row.alloc HM.out _) (some ⟨wr.heap.size, 0, none⟩) 1 1 [.string s, encV x] rfl rfl (by have := Rd.newRow wr #[.string s, encV x] 65; exact this) (by intro u hu; simp at hu; rcases hu with rfl | rfl <;> rfl) (by omega) (by simp only [maxLen]; omega) (by simp; omega) ?_; intro A' c' w' hrow hg hob; rw [← HKS.out] at hrow; obtain ⟨p1, p2⟩ := PR.more (q := (k, x)) HM.out HB.out hrow hg; have P1 := Lib.hid p1; have P2 := Lib.hid p2; clear hrow p1 p2 hg hob)
        go_ret
        have := P1.out
        exact ⟨_, rfl, HPR.out _ _ _ this H3.out P2.out⟩
end Go.Proofs.Ytkpfendodmfeoaa
