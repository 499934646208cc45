import Derived.Test.YtfegchonclhjjaaWr5
namespace Go.Proofs.Ytfegchonclhjjaa
open Go.RowKit
theorem mem_flat {cs : List Bs} {c : Bs} (h : c ∈ cs) : c.length ≤ cs.flatten.length := by
  induction cs with
  | nil => cases h
  | cons d ds ih =>
    rw [List.flatten_cons, List.length_append]
    rcases List.mem_cons.1 h with e | e
    · rw [e]; omega
    · have := ih e; omega
theorem mem_cuts {l c : Bs} (h : c ∈ cuts l) : c.length ≤ l.length := by
  have := mem_flat h
  rwa [cuts_flat] at this
/-- A test of strings as the walk spells it. -/
theorem str_beq {p q : ByteArray} {a b : Bs} (hp : p = ⟨a.toArray⟩) (hq : q = ⟨b.toArray⟩) : (p.toList == q.toList) = decide (a = b) := by
  subst hp; subst hq
  rw [ByteArray.toList_eq, ByteArray.toList_eq, Bool.eq_iff_iff]
  simp
/-- ref.Sum. -/
theorem rSum_calls (l : Bs) (hl : l.length ≤ 4294967296) (s : ByteArray) (hs : s = ⟨l.toArray⟩) (w : World) :
    Calls Try.prog 25 #[.string s] w fun e w' => e = .returned (.int .i64 (wsum (cuts l))) ∧ Below w.heap.size w w' := by
  have HS := Lib.hid hs
  clear hs
  have hcl := cuts_len l
  have hcm : ∀ c ∈ cuts l, c.length ≤ l.length := fun c hc => mem_cuts hc
  obtain ⟨cs, hcs⟩ : ∃ cs, cs = cuts l := ⟨_, rfl⟩
  rw [← hcs] at hcl hcm ⊢
  have HCS := Lib.hid hcs
  have HCM := Lib.hid hcm
  clear hcs hcm
  go_enter Try.func25, Try.ntmps25
  go_wp2_with (go_at_call 19; refine (rCut_calls l hl s HS.out _).mono ?_; rintro e w1 ⟨v1, rfl, hrow1, hb1⟩; rw [← HCS.out] at hrow1; obtain ⟨A1, c1, rfl, _, _, hrd1, hA1⟩ := hrow1.rd)
  clear hrow1
  have HRD := Lib.hid hrd1
  clear hrd1
  go_loopw [3, 5] (fun u3 u5 wr => ∃ k : Nat, u5 = .int .i64 k ∧ k ≤ cs.length ∧ u3 = .int .i64 (wsum (cs.take k)) ∧ Below w1.heap.size w1 wr) (fun _ u5 _ => cs.length - (intOf u5).toNat)
  case atStart => exact ⟨0, rfl, Nat.zero_le _, rfl, Below.refl _ _⟩
  case round =>
    obtain ⟨k, rfl, hk, rfl, hbr⟩ := hrel
    by_cases hgo : k < cs.length
    · obtain ⟨cc, hcc⟩ : ∃ cc, cs[k]? = some cc := ⟨_, List.getElem?_eq_getElem hgo⟩
      obtain ⟨b, o, rfl, hc⟩ := (HRD.out.later hbr) k (str cc) (by rw [List.getElem?_map, hcc]; rfl)
      have hmem : cc ∈ cs := List.mem_of_getElem? hcc
      have hccl := HCM.out cc hmem
      have hsum := wsum_le (cs.take k)
      rw [List.length_take] at hsum
      have hwc := wid_le cc
      have hnext : wsum (cs.take (k + 1)) = wsum (cs.take k) + wid cc := by rw [List.take_add_one, hcc, ← wsum_snoc]; rfl
      have HN := Lib.hid hnext
      have HCC := Lib.hid hcc
      clear hnext hcc hmem
      obtain ⟨m, hm⟩ : ∃ m, m = wsum (cs.take k) := ⟨_, rfl⟩
      obtain ⟨d, hd⟩ : ∃ d, d = wid cc := ⟨_, rfl⟩
      rw [← hm] at hsum ⊢
      rw [← hd] at hwc
      have HM := Lib.hid hm
      have HD := Lib.hid hd
      clear hm hd
      have i1 : (k : Int) < (cs.length : Int) := by omega
      have hB2 : ∀ w2, Below wr.heap.size wr w2 → Below w1.heap.size w1 w2 := fun w2 h => hbr.trans (h.mono hbr.size)
      have hB2 := Lib.hid hB2
      obtain ⟨s2, hs2⟩ : ∃ s2 : ByteArray, s2 = ⟨cc.toArray⟩ := ⟨_, rfl⟩
      rw [show str cc = .string s2 from by rw [hs2]] at hc
      have HS2 := Lib.hid hs2
      clear hs2
      go_wp2_with (go_at_call 22; refine (rWide_calls cc (by omega) s2 HS2.out wr).mono ?_; rintro e w2 ⟨rfl, hb2⟩; rw [← HD.out])
      go_roundw
      case rel => exact ⟨k + 1, by go_num, by omega, by rw [HN.out, HM.out, HD.out], hB2.out _ hb2⟩
      case measure => simp [intOf]; omega
    · have hke : k = cs.length := by omega
      subst hke
      rw [List.take_length]
      go_wp2
      go_ret
      exact ⟨rfl, hb1.trans (hbr.mono hb1.size)⟩
set_option maxHeartbeats 800000 in
/-- law02.same. -/
theorem same_calls (A A' : Option Addr) (c c' : Nat) (xs ys : List Bs) (w : World) (hr : Rd w A (xs.map str)) (hr' : Rd w A' (ys.map str)) (hx : xs.length ≤ 4294967296) :
    Calls Try.prog 18 #[.slice A xs.length c, .slice A' ys.length c'] w fun e w' => e = .returned (.bool (decide (xs = ys))) ∧ Below w.heap.size w w' := by
  by_cases hle : xs.length = ys.length
  case neg =>
    have hd : decide (xs = ys) = false := decide_eq_false (fun e => hle (by rw [e]))
    have hne : ((xs.length : Int) != (ys.length : Int)) = true := by simp; omega
    rw [hd]
    go_enter Try.func18, Try.ntmps18
    go_wp2
    go_ret
    exact ⟨rfl, Below.refl _ _⟩
  have hne : ((xs.length : Int) != (ys.length : Int)) = false := by simp; omega
  have HLE := Lib.hid hle
  clear hle
  have HR := Lib.hid hr
  have HR' := Lib.hid hr'
  clear hr hr'
  go_enter Try.func18, Try.ntmps18
  go_wp2
  go_loopw [13] (fun u13 wr => ∃ (k nd : Nat), u13 = .int .i64 k ∧ wr = w.drewN nd ∧ k ≤ xs.length ∧ ∀ j, j < k → xs[j]? = ys[j]?) (fun u13 _ => xs.length - (intOf u13).toNat)
  case atStart => exact ⟨0, 0, rfl, rfl, Nat.zero_le _, fun j hj => by omega⟩
  case round =>
    obtain ⟨k, nd, rfl, rfl, hk, heq⟩ := hrel
    have HE := Lib.hid heq
    clear heq
    by_cases hlt : k < xs.length
    · have hlt' : k < ys.length := by have := HLE.out; omega
      obtain ⟨b, off, rfl, hc⟩ := HR.out.at0 (by intro e; have := congrArg List.length e; simp at this; rw [this] at hlt; simp at hlt)
      obtain ⟨b', off', rfl, hc'⟩ := HR'.out.at0 (by intro e; have := congrArg List.length e; simp at this; rw [this] at hlt'; simp at hlt')
      have hc1 := hc k (str (xs[k]'hlt)) (by rw [List.getElem?_map, List.getElem?_eq_getElem hlt]; rfl)
      have hc2 := hc' k (str (ys[k]'hlt')) (by rw [List.getElem?_map, List.getElem?_eq_getElem hlt']; rfl)
      clear hc hc'
      obtain ⟨p, hp⟩ : ∃ p : ByteArray, p = ⟨(xs[k]'hlt).toArray⟩ := ⟨_, rfl⟩
      obtain ⟨q, hq⟩ : ∃ q : ByteArray, q = ⟨(ys[k]'hlt').toArray⟩ := ⟨_, rfl⟩
      rw [show str (xs[k]'hlt) = .string p from by rw [hp]] at hc1
      rw [show str (ys[k]'hlt') = .string q from by rw [hq]] at hc2
      have HP := Lib.hid hp
      have HQ := Lib.hid hq
      clear hp hq
      have b1 : (k : Int) < (xs.length : Int) := by omega
      have b2 : (k : Int) < (ys.length : Int) := by omega
      have hpq := str_beq HP.out HQ.out
      by_cases he : xs[k]'hlt = ys[k]'hlt'
      · have he' : (p.toList == q.toList) = true := by rw [hpq]; exact decide_eq_true he
        have HE' := Lib.hid he
        clear he hpq
        go_wp2
        go_quiet (fail)
        go_wp2
        go_roundw
        case rel =>
          refine ⟨k + 1, _, by go_num, rfl, by omega, fun j hj => ?_⟩
          rcases Nat.lt_succ_iff_lt_or_eq.1 hj with h | h
          · exact HE.out j h
          · rw [h, List.getElem?_eq_getElem hlt, List.getElem?_eq_getElem hlt']
            rw [HE'.out]
        case measure => simp [intOf]; omega
      · have he' : (p.toList == q.toList) = false := by rw [hpq]; exact decide_eq_false he
        clear hpq
        go_wp2
        go_quiet (fail)
        go_wp2
        go_ret
        have hd : decide (xs = ys) = false := decide_eq_false (fun e => he (by simp only [e]))
        rw [hd]
        exact ⟨rfl, (Below.refl _ _).trans ⟨rfl, rfl, rfl, Nat.le_refl _, fun _ _ => rfl⟩⟩
    · go_wp2
      go_ret
      have hd : decide (xs = ys) = true := decide_eq_true (List.ext_getElem? fun j => by
        by_cases h : j < k
        · exact HE.out j h
        · have := HLE.out
          rw [List.getElem?_eq_none (by omega), List.getElem?_eq_none (by omega)])
      rw [hd]
      exact ⟨rfl, (Below.refl _ _).trans ⟨rfl, rfl, rfl, Nat.le_refl _, fun _ _ => rfl⟩⟩
end Go.Proofs.Ytfegchonclhjjaa
