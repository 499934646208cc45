import Derived.Test.YtpemjhghiccngaaDoorHs6
namespace Go.Proofs.YtpemjhghiccngaaDoor
set_option linter.unusedVariables false
set_option linter.unusedSimpArgs false
open Go.RowKit
set_option maxRecDepth 100000 in
set_option maxHeartbeats 1600000 in
theorem New12_calls (w : World) (A : Option Addr) (c : Nat) (l : List EntT) (hr : Rd w A (flatE l)) (hl : l.length ≤ 1000000) :
    Calls Tryd.prog 23 #[.slice A l.length c] w fun e w' => ∃ A1 c1, e = .returned (.slice A1 l.length c1) ∧ Row w' w.heap.size 35 3 (.slice A1 l.length c1) l.length (flatE l) ∧ Below w.heap.size w w' := by
  have HA := Lib.hid hr
  clear hr
  go_enter Tryd.func23, Tryd.ntmps23
  go_wp2
  go_loopw [3, 8] (fun u3 u8 wr => ∃ (k : Nat) (A1 : Option Addr) (c1 : Nat), u8 = n64 k ∧ k ≤ l.length ∧ u3 = .slice A1 k c1 ∧ Hid (Row wr w.heap.size 35 3 (.slice A1 k c1) k (flatE (l.take k))) ∧ Hid (Below w.heap.size w wr)) (fun _ u8 _ => (l.length - intOf u8).toNat)
  case atStart => exact ⟨0, none, 0, rfl, Nat.zero_le _, rfl, Lib.hid (by simpa [flatE] using Row.nil _ _ _ _), Lib.hid (Below.refl _ _)⟩
  case round =>
    obtain ⟨k, A1, c1, rfl, hk, rfl, HR, HW⟩ := hrel
    by_cases hlt : k < l.length
    · obtain ⟨x, hx⟩ : ∃ x, l[k]? = some x := ⟨_, List.getElem?_eq_getElem hlt⟩
      obtain ⟨g, off, rfl, v0, v1, v2⟩ := RdE.at (HA.out.later HW.out) hx
      have hnews := rdNew (wr.alloc (.cells #[.int .i64 x.t, str x.d, str x.c] 28)) #[.int .i64 x.t, str x.d, str x.c] 35
      rw [World.size_alloc] at hnews
      have HN := Lib.hid hnews
      have HX := Lib.hid (flatE_snoc hx)
      have HE1 := Lib.hid (entC_one x)
      have b1 : (k : Int) < (l.length : Int) := by omega
      have hB : w.heap.size ≤ wr.heap.size := HW.out.size
      clear hx hnews
      go_wp2_with (at_builtin; refine wpList_append_row _ rfl _ _ 39 rfl w.heap.size 35 3 40 _ Tryd.underlying39 Tryd.info_ent rfl (by decide) (.slice A1 k c1) k (flatE (l.take k)) rfl ((HR.out.alloc _).alloc _) (some ⟨wr.heap.size + 1, 0, none⟩) 1 1 (entCells x) rfl rfl HN.out HE1.out (by omega) (by simp only [maxLen]; omega) (by simp; omega) ?_; intro A2 c2 w2 hrow2 hg2 hb2; rw [HX.out] at hrow2; have B2 : Below w.heap.size w w2 := Below.grown ((HW.out.alloc hB _).alloc (by simp; omega) _) hg2 (by simp; omega) (fun j e => (HR.out.lt j e).1))
      have HROW2 := Lib.hid hrow2
      have HB2 := Lib.hid B2
      clear hrow2 hg2 hb2 B2
      go_roundw
      case rel => exact ⟨k + 1, A2, c2, by go_num, by omega, rfl, HROW2, HB2⟩
      case measure => simp [intOf]; omega
    · obtain rfl : k = l.length := by omega
      go_wp2
      go_ret
      have hrow := HR.out
      rw [List.take_length] at hrow
      exact ⟨_, _, rfl, hrow, HW.out⟩
set_option maxRecDepth 100000 in
set_option maxHeartbeats 1600000 in
/-- The document's Uses. -/
theorem rUses_calls (w : World) (A : Option Addr) (c : Nat) (l : List EntT) (hr : Rd w A (flatE l)) (hl : l.length ≤ 1000000) (s : Bs) (sb : ByteArray) (hs : sb = ⟨s.toArray⟩) :
    Calls Tryd.prog 25 #[.slice A l.length c, .string sb] w fun e w' => ∃ A1 c1, e = .returned (.slice A1 (l.filter fun x => decide (x.c = s)).length c1) ∧ Row w' w.heap.size 28 3 (.slice A1 (l.filter fun x => decide (x.c = s)).length c1) (l.filter fun x => decide (x.c = s)).length (flatE (l.filter fun x => decide (x.c = s))) ∧ Below w.heap.size w w' := by
  have HA := Lib.hid hr
  have HS := Lib.hid hs
  clear hr hs
  go_enter Tryd.func25, Tryd.ntmps25
  go_wp2
  go_loopw [5, 6] (fun u5 u6 wr => ∃ (k m : Nat) (A1 : Option Addr) (c1 : Nat), u6 = n64 k ∧ k ≤ l.length ∧ m ≤ k ∧ Hid (m = ((l.take k).filter fun x => decide (x.c = s)).length) ∧ u5 = .slice A1 m c1 ∧ Hid (Row wr w.heap.size 28 3 (.slice A1 m c1) m (flatE ((l.take k).filter fun x => decide (x.c = s)))) ∧ Hid (Below w.heap.size w wr)) (fun _ u6 _ => (l.length - intOf u6).toNat)
  case atStart => exact ⟨0, 0, none, 0, rfl, Nat.zero_le _, Nat.le_refl _, Lib.hid rfl, rfl, Lib.hid (by simpa [flatE] using Row.nil _ _ _ _), Lib.hid (Below.refl _ _)⟩
  case round =>
    obtain ⟨k, m, A1, c1, rfl, hk, hm, HM, rfl, HR, HW⟩ := hrel
    by_cases hlt : k < l.length
    · obtain ⟨x, hx⟩ : ∃ x, l[k]? = some x := ⟨_, List.getElem?_eq_getElem hlt⟩
      obtain ⟨g, off, rfl, v0, v1, v2⟩ := RdE.at (HA.out.later HW.out) hx
      obtain ⟨sx, hsx⟩ : ∃ s : ByteArray, s = ⟨x.c.toArray⟩ := ⟨_, rfl⟩
      have hbe := str_beq hsx HS.out
      rw [lit_of hsx] at v2
      have b1 : (k : Int) < (l.length : Int) := by omega
      have hB : w.heap.size ≤ wr.heap.size := HW.out.size
      by_cases hxs : x.c = s
      · rw [decide_eq_true hxs] at hbe
        have hst : (l.take (k + 1)).filter (fun x => decide (x.c = s)) = (l.take k).filter (fun x => decide (x.c = s)) ++ [x] := by rw [List.take_add_one, hx, List.filter_append]; simp [hxs]
        have hnews := rdNew wr #[.int .i64 x.t, str x.d, str x.c] 28
        have hnews' : Rd (wr.alloc (.cells #[.int .i64 x.t, str x.d, .string sx] 28)) (some ⟨wr.heap.size, 0, none⟩) (entCells x) := by rw [← lit_of hsx]; exact hnews
        have HN := Lib.hid hnews'
        have HST := Lib.hid hst
        have HE1 := Lib.hid (entC_one x)
        clear hx hnews hnews' hst hsx hxs
        go_wp2_with (at_builtin; refine wpList_append_row _ rfl _ _ 22 rfl w.heap.size 28 3 40 _ Tryd.underlying22 Tryd.info_rent rfl (by decide) (.slice A1 m c1) m _ rfl (HR.out.alloc _) (some ⟨wr.heap.size, 0, none⟩) 1 1 (entCells x) rfl rfl HN.out HE1.out (by omega) (by simp only [maxLen]; omega) (by simp; omega) ?_; intro A2 c2 w2 hrow2 hg2 hb2; rw [show flatE ((l.take k).filter fun x => decide (x.c = s)) ++ entCells x = flatE ((l.take (k + 1)).filter fun x => decide (x.c = s)) by rw [HST.out, flatE_app]; simp [flatE]] at hrow2; have B2 : Below w.heap.size w w2 := Below.grown (HW.out.alloc hB _) hg2 (by simp; omega) (fun j e => (HR.out.lt j e).1))
        have HROW2 := Lib.hid hrow2
        have HB2 := Lib.hid B2
        have HM2 : Hid (m + 1 = ((l.take (k + 1)).filter fun x => decide (x.c = s)).length) := Lib.hid (by rw [HST.out, List.length_append, ← HM.out]; rfl)
        clear hrow2 hg2 hb2 B2
        go_roundw
        case rel => exact ⟨k + 1, m + 1, A2, c2, by go_num, by omega, by omega, HM2, rfl, HROW2, HB2⟩
        case measure => simp [intOf]; omega
      · rw [decide_eq_false hxs] at hbe
        have hst : (l.take (k + 1)).filter (fun x => decide (x.c = s)) = (l.take k).filter (fun x => decide (x.c = s)) := by rw [List.take_add_one, hx, List.filter_append]; simp [hxs]
        have HST := Lib.hid hst
        clear hx hst hsx hxs
        go_wp2
        go_roundw
        case rel => exact ⟨k + 1, m, A1, c1, by go_num, by omega, by omega, Lib.hid (by rw [HST.out]; exact HM.out), rfl, Lib.hid (by rw [HST.out]; exact HR.out), HW⟩
        case measure => simp [intOf]; omega
    · obtain rfl : k = l.length := by omega
      go_wp2
      go_ret
      have hrow := HR.out
      have hmm := HM.out
      rw [List.take_length] at hrow hmm
      subst hmm
      exact ⟨_, _, rfl, hrow, HW.out⟩
end Go.Proofs.YtpemjhghiccngaaDoor
namespace Go.Proofs.YtpemjhghiccngaaDoor
set_option linter.unusedVariables false
set_option linter.unusedSimpArgs false
open Go.RowKit
/-! The document's without, Cmds. -/
def woStep (s : Bs) (st : List EntT × Nat) (x : EntT) : List EntT × Nat := if x.c = s ∧ 0 < st.2 then (st.1, st.2 - 1) else (st.1 ++ [x], st.2)
def woF (l : List EntT) (s : Bs) (n : Nat) : List EntT × Nat := l.foldl (woStep s) ([], n)
theorem woF_step {l : List EntT} {k : Nat} {x : EntT} (hx : l[k]? = some x) (s : Bs) (n : Nat) : woF (l.take (k + 1)) s n = woStep s (woF (l.take k) s n) x := by
  unfold woF
  rw [List.take_add_one, hx, List.foldl_append]; rfl
theorem woF_len (s : Bs) (n : Nat) : (l : List EntT) → (st : List EntT × Nat) → (l.foldl (woStep s) st).1.length ≤ st.1.length + l.length ∧ (l.foldl (woStep s) st).2 ≤ st.2
  | [], st => ⟨Nat.le_refl _, Nat.le_refl _⟩
  | x :: l, st => by
      rw [List.foldl_cons]
      obtain ⟨h1, h2⟩ := woF_len s n l (woStep s st x)
      have : (woStep s st x).1.length ≤ st.1.length + 1 ∧ (woStep s st x).2 ≤ st.2 := by
        unfold woStep; split
        · exact ⟨Nat.le_succ _, Nat.sub_le _ _⟩
        · exact ⟨by simp, Nat.le_refl _⟩
      rw [List.length_cons]; omega
theorem woF_le (l : List EntT) (s : Bs) (n : Nat) : (woF l s n).1.length ≤ l.length ∧ (woF l s n).2 ≤ n := by
  have := woF_len s n l ([], n)
  unfold woF; simpa using this
set_option maxRecDepth 100000 in
set_option maxHeartbeats 1600000 in
theorem rWithout_calls (w : World) (A : Option Addr) (c : Nat) (l : List EntT) (hr : Rd w A (flatE l)) (hl : l.length ≤ 1000000) (s : Bs) (sb : ByteArray) (hs : sb = ⟨s.toArray⟩) (n : Nat) (hn : n ≤ 1000000) :
    Calls Tryd.prog 37 #[.slice A l.length c, .string sb, .int .i64 n] w fun e w' => ∃ A1 c1, e = .returned (.slice A1 (woF l s n).1.length c1) ∧ Row w' w.heap.size 28 3 (.slice A1 (woF l s n).1.length c1) (woF l s n).1.length (flatE (woF l s n).1) ∧ Below w.heap.size w w' := by
  have HA := Lib.hid hr
  have HS := Lib.hid hs
  clear hr hs
  go_enter Tryd.func37, Tryd.ntmps37
  go_wp2
  go_loopw [2, 7, 8] (fun u2 u7 u8 wr => ∃ (k m r : Nat) (A1 : Option Addr) (c1 : Nat), u2 = n64 r ∧ u8 = n64 k ∧ k ≤ l.length ∧ m ≤ k ∧ r ≤ n ∧ Hid (r = (woF (l.take k) s n).2) ∧ Hid (m = (woF (l.take k) s n).1.length) ∧ u7 = .slice A1 m c1 ∧ Hid (Row wr w.heap.size 28 3 (.slice A1 m c1) m (flatE (woF (l.take k) s n).1)) ∧ Hid (Below w.heap.size w wr)) (fun _ _ u8 _ => (l.length - intOf u8).toNat)
  case atStart => exact ⟨0, 0, n, none, 0, rfl, rfl, Nat.zero_le _, Nat.le_refl _, Nat.le_refl _, Lib.hid rfl, Lib.hid rfl, rfl, Lib.hid (by simpa [flatE, woF] using Row.nil _ _ _ _), Lib.hid (Below.refl _ _)⟩
  case round =>
    obtain ⟨k, m, r, A1, c1, rfl, rfl, hk, hm, hrn, HRN, HM, rfl, HR, HW⟩ := hrel
    by_cases hlt : k < l.length
    · obtain ⟨x, hx⟩ : ∃ x, l[k]? = some x := ⟨_, List.getElem?_eq_getElem hlt⟩
      obtain ⟨g, off, rfl, v0, v1, v2⟩ := RdE.at (HA.out.later HW.out) hx
      obtain ⟨sx, hsx⟩ : ∃ s : ByteArray, s = ⟨x.c.toArray⟩ := ⟨_, rfl⟩
      have hbe := str_beq hsx HS.out
      rw [lit_of hsx] at v2
      have b1 : (k : Int) < (l.length : Int) := by omega
      have hB : w.heap.size ≤ wr.heap.size := HW.out.size
      have hstep := woF_step hx s n
      by_cases hy : x.c = s ∧ 0 < r
      · obtain ⟨hxs, hr0⟩ := hy
        rw [decide_eq_true hxs] at hbe
        have i1 : decide ((0 : Int) < (r : Int)) = true := by simp; omega
        have hst : woF (l.take (k + 1)) s n = ((woF (l.take k) s n).1, r - 1) := by rw [hstep, woStep, ← HRN.out, if_pos ⟨hxs, hr0⟩]
        have HST := Lib.hid hst
        clear hx hst hsx hxs hstep
        go_wp2
        go_roundw
        case rel => exact ⟨k + 1, m, r - 1, A1, c1, by go_num, by go_num, by omega, by omega, by omega, Lib.hid (by rw [HST.out]), Lib.hid (by rw [HST.out]; exact HM.out), rfl, Lib.hid (by rw [HST.out]; exact HR.out), HW⟩
        case measure => simp [intOf]; omega
      · have hst : woF (l.take (k + 1)) s n = ((woF (l.take k) s n).1 ++ [x], r) := by rw [hstep, woStep, ← HRN.out, if_neg hy]
        have hnews := rdNew wr #[.int .i64 x.t, str x.d, str x.c] 28
        have hnews' : Rd (wr.alloc (.cells #[.int .i64 x.t, str x.d, .string sx] 28)) (some ⟨wr.heap.size, 0, none⟩) (entCells x) := by rw [← lit_of hsx]; exact hnews
        have HN := Lib.hid hnews'
        have HST := Lib.hid hst
        have HE1 := Lib.hid (entC_one x)
        have HRN2 : Hid (r = (woF (l.take (k + 1)) s n).2) := Lib.hid (by rw [HST.out])
        have HM2 : Hid (m + 1 = (woF (l.take (k + 1)) s n).1.length) := Lib.hid (by rw [HST.out, List.length_append, ← HM.out]; rfl)
        have HFL : Hid (flatE (woF (l.take k) s n).1 ++ entCells x = flatE (woF (l.take (k + 1)) s n).1) := Lib.hid (by rw [HST.out, flatE_app]; simp [flatE])
        by_cases hxs : x.c = s
        · have hr0 : r = 0 := by
            rcases Nat.eq_zero_or_pos r with e | e
            · exact e
            · exact absurd ⟨hxs, e⟩ hy
          rw [decide_eq_true hxs] at hbe
          have i1 : decide ((0 : Int) < (r : Int)) = false := by simp; omega
          have i1' : decide (0 < r) = false := by simp; omega
          clear hx hnews hnews' hst hsx hxs hstep hy hr0
          go_wp2_with (at_builtin; refine wpList_append_row _ rfl _ _ 22 rfl w.heap.size 28 3 40 _ Tryd.underlying22 Tryd.info_rent rfl (by decide) (.slice A1 m c1) m _ rfl (HR.out.alloc _) (some ⟨wr.heap.size, 0, none⟩) 1 1 (entCells x) rfl rfl HN.out HE1.out (by omega) (by simp only [maxLen]; omega) (by simp; omega) ?_; intro A2 c2 w2 hrow2 hg2 hb2; rw [HFL.out] at hrow2; have B2 : Below w.heap.size w w2 := Below.grown (HW.out.alloc hB _) hg2 (by simp; omega) (fun j e => (HR.out.lt j e).1))
          have HROW2 := Lib.hid hrow2
          have HB2 := Lib.hid B2
          clear hrow2 hg2 hb2 B2
          go_roundw
          case rel => exact ⟨k + 1, m + 1, r, A2, c2, rfl, by go_num, by omega, by omega, by omega, HRN2, HM2, rfl, HROW2, HB2⟩
          case measure => simp [intOf]; omega
        · rw [decide_eq_false hxs] at hbe
          clear hx hnews hnews' hst hsx hxs hstep hy
          go_wp2_with (at_builtin; refine wpList_append_row _ rfl _ _ 22 rfl w.heap.size 28 3 40 _ Tryd.underlying22 Tryd.info_rent rfl (by decide) (.slice A1 m c1) m _ rfl (HR.out.alloc _) (some ⟨wr.heap.size, 0, none⟩) 1 1 (entCells x) rfl rfl HN.out HE1.out (by omega) (by simp only [maxLen]; omega) (by simp; omega) ?_; intro A2 c2 w2 hrow2 hg2 hb2; rw [HFL.out] at hrow2; have B2 : Below w.heap.size w w2 := Below.grown (HW.out.alloc hB _) hg2 (by simp; omega) (fun j e => (HR.out.lt j e).1))
          have HROW2 := Lib.hid hrow2
          have HB2 := Lib.hid B2
          clear hrow2 hg2 hb2 B2
          go_roundw
          case rel => exact ⟨k + 1, m + 1, r, A2, c2, rfl, by go_num, by omega, by omega, by omega, HRN2, HM2, rfl, HROW2, HB2⟩
          case measure => simp [intOf]; omega
    · obtain rfl : k = l.length := by omega
      go_wp2
      go_ret
      have hrow := HR.out
      have hmm := HM.out
      rw [List.take_length] at hrow hmm
      subst hmm
      exact ⟨_, _, rfl, hrow, HW.out⟩
/-- Each command once, the last one first. -/
def nub (cs : List Bs) (x : Bs) : List Bs := if x ∈ cs then cs else cs ++ [x]
def cmdsR (l : List EntT) : List Bs := l.foldl (fun out x => nub out x.c) []
def cmdsE (l : List EntT) : List Bs := cmdsR l.reverse
theorem nub_len (cs : List Bs) (x : Bs) : (nub cs x).length ≤ cs.length + 1 := by unfold nub; split <;> simp
theorem cmdsR_len : (l : List EntT) → (cs : List Bs) → (l.foldl (fun out x => nub out x.c) cs).length ≤ cs.length + l.length
  | [], cs => Nat.le_refl _
  | x :: l, cs => by
      rw [List.foldl_cons]
      have h1 := cmdsR_len l (nub cs x.c)
      have h2 := nub_len cs x.c
      rw [List.length_cons]; omega
theorem cmdsE_len (l : List EntT) : (cmdsE l).length ≤ l.length := by
  have := cmdsR_len l.reverse []
  simpa [cmdsE, cmdsR] using this
theorem cmdsR_step {l : List EntT} {k : Nat} {x : EntT} (hx : l[l.length - 1 - k]? = some x) (hk : k < l.length) : cmdsR (l.reverse.take (k + 1)) = nub (cmdsR (l.reverse.take k)) x.c := by
  have : l.reverse[k]? = some x := by rw [List.getElem?_reverse hk]; exact hx
  unfold cmdsR
  rw [List.take_add_one, this, List.foldl_append]; rfl
end Go.Proofs.YtpemjhghiccngaaDoor
namespace Go.Proofs.YtpemjhghiccngaaDoor
set_option linter.unusedVariables false
set_option linter.unusedSimpArgs false
open Go.RowKit
theorem rd1New (w : World) (u : Value) (e : TypeId) : Rd (w.alloc (.cells #[u] e)) (some ⟨w.heap.size, 0, none⟩) [u] := rdNew w #[u] e
set_option maxRecDepth 100000 in
set_option maxHeartbeats 3200000 in
/-- The document's Cmds. -/
theorem rCmds_calls (w : World) (A : Option Addr) (c : Nat) (l : List EntT) (hr : Rd w A (flatE l)) (hl : l.length ≤ 1000000) :
    Calls Tryd.prog 20 #[.slice A l.length c] w fun e w' => ∃ A1 c1, e = .returned (.slice A1 (cmdsE l).length c1) ∧ Row w' w.heap.size 9 1 (.slice A1 (cmdsE l).length c1) (cmdsE l).length ((cmdsE l).map str) ∧ Below w.heap.size w w' := by
  have HA := Lib.hid hr
  have hw0 : IntKind.i64.wrap ((l.length : Int) - 1) = (l.length : Int) - 1 := IntWalk.i64_in _ (by omega)
  clear hr
  go_enter Tryd.func20, Tryd.ntmps20
  go_wp2
  go_loopw [3, 4] (fun u3 u4 wr => ∃ (k m : Nat) (z : Int) (A1 : Option Addr) (c1 : Nat), u4 = .int .i64 z ∧ Hid (z = (l.length : Int) - 1 - (k : Int)) ∧ k ≤ l.length ∧ m ≤ k ∧ Hid (m = (cmdsR (l.reverse.take k)).length) ∧ u3 = .slice A1 m c1 ∧ Hid (Row wr w.heap.size 9 1 (.slice A1 m c1) m ((cmdsR (l.reverse.take k)).map str)) ∧ Hid (Below w.heap.size w wr)) (fun _ u4 _ => (intOf u4 + 1).toNat)
  case atStart => exact ⟨0, 0, _, none, 0, rfl, Lib.hid (by omega), Nat.zero_le _, Nat.le_refl _, Lib.hid rfl, rfl, Lib.hid (by simpa [cmdsR] using Row.nil _ _ _ _), Lib.hid (Below.refl _ _)⟩
  case round =>
    obtain ⟨k, m, z, A1, c1, rfl, HZ, hk, hm, HM, rfl, HR, HW⟩ := hrel
    clear hw0
    by_cases hlt : k < l.length
    · obtain ⟨i, hi⟩ : ∃ i, i = l.length - 1 - k := ⟨_, rfl⟩
      obtain rfl : z = (i : Int) := by have := HZ.out; omega
      have hil : i < l.length := by omega
      obtain ⟨x, hx⟩ : ∃ x, l[i]? = some x := ⟨_, List.getElem?_eq_getElem hil⟩
      have hst := cmdsR_step (x := x) (by rw [← hi]; exact hx) hlt
      obtain ⟨cs, hcs⟩ : ∃ cs, cs = cmdsR (l.reverse.take k) := ⟨_, rfl⟩
      rw [← hcs] at hst HM HR
      have HI := Lib.hid hi
      obtain ⟨g, off, rfl, v0, v1, v2⟩ := RdE.at (HA.out.later HW.out) hx
      obtain ⟨sx, hsx⟩ : ∃ s : ByteArray, s = ⟨x.c.toArray⟩ := ⟨_, rfl⟩
      rw [lit_of hsx] at v2
      have HSX := Lib.hid hsx
      have HST := Lib.hid hst
      have b1 : (i : Int) < (l.length : Int) := by omega
      have b0 : (0 : Int) ≤ (i : Int) := by omega
      have hB : w.heap.size ≤ wr.heap.size := HW.out.size
      clear hi hx hst hcs hsx v0 v1
      obtain ⟨wo, rfl⟩ : ∃ wo : World, wo = wr := ⟨_, rfl⟩
      go_wp2
      go_loopw [5, 6] (fun u5 u6 wz => ∃ j nd : Nat, u6 = n64 j ∧ j ≤ m ∧ u5 = .bool (decide (x.c ∈ cs.take j)) ∧ wz = wo.drewN nd) (fun _ u6 _ => (m - intOf u6).toNat)
      case atStart => exact ⟨0, 0, rfl, Nat.zero_le _, by simp, rfl⟩
      case round =>
        obtain ⟨j, nd, rfl, hj, rfl, rfl⟩ := hrel
        by_cases hjl : j < m
        · obtain ⟨y, hy⟩ : ∃ y, cs[j]? = some y := ⟨_, List.getElem?_eq_getElem (by rw [← HM.out]; exact hjl)⟩
          obtain ⟨_, _, e4, _, _, hrd4, _⟩ := HR.out.rd
          cases e4
          obtain ⟨g4, off4, rfl, c5⟩ := hrd4 j (str y) (by rw [List.getElem?_map, hy]; rfl)
          obtain ⟨sy, hsy⟩ : ∃ sy : ByteArray, sy = ⟨y.toArray⟩ := ⟨_, rfl⟩
          rw [lit_of hsy] at c5
          have hbe := str_beq hsy HSX.out
          have htk : cs.take (j + 1) = cs.take j ++ [y] := by rw [List.take_add_one, hy]; rfl
          have HTK := Lib.hid htk
          have b5 : (j : Int) < (m : Int) := by omega
          have b6 : (0 : Int) ≤ (j : Int) := by omega
          clear hrd4 hy hsy htk
          by_cases hyx : y = x.c
          · rw [decide_eq_true hyx] at hbe
            go_wp2
            go_quiet (fail)
            rename_i nq
            go_wp2
            go_roundw
            case rel => exact ⟨j + 1, _, by go_num, by omega, by rw [HTK.out, decide_eq_true (by rw [hyx]; simp)], rfl⟩
            case measure => simp [intOf]; omega
          · rw [decide_eq_false hyx] at hbe
            go_wp2
            go_quiet (fail)
            rename_i nq
            go_wp2
            go_roundw
            case rel => exact ⟨j + 1, _, by go_num, by omega, by congr 1; rw [HTK.out]; simp [Ne.symm hyx], rfl⟩
            case measure => simp [intOf]; omega
        · have hjm : j = m := by omega
          subst hjm
          rw [show cs.take j = cs from List.take_of_length_le (by rw [← HM.out]; exact Nat.le_refl _)]
          have b5 : ¬ (j : Int) < (j : Int) := by omega
          have hz' : IntKind.i64.wrap ((i : Int) - 1) = (i : Int) - 1 := IntWalk.i64_in _ (by omega)
          by_cases hmem : x.c ∈ cs
          · rw [decide_eq_true hmem]
            have hnb : cmdsR (l.reverse.take (k + 1)) = cs := by rw [HST.out, nub, if_pos hmem]
            have HNB := Lib.hid hnb
            clear hnb hmem
            go_wp2
            go_roundw
            case rel => exact ⟨k + 1, j, _, A1, c1, rfl, Lib.hid (by have := HI.out; omega), by omega, by omega, Lib.hid (by rw [HNB.out]; exact HM.out), rfl, Lib.hid (by rw [HNB.out]; exact HR.out.at_ (fun _ _ => rfl)), Lib.hid (belowN HW.out nd)⟩
            case measure => simp [intOf]
          · rw [decide_eq_false hmem]
            have hnb : cmdsR (l.reverse.take (k + 1)) = cs ++ [x.c] := by rw [HST.out, nub, if_neg hmem]
            have HNB := Lib.hid hnb
            have hnews := rd1New (wo.drewN nd) (.string sx) 9
            have hnews' : Rd ((wo.drewN nd).alloc (.cells #[.string sx] 9)) (some ⟨wo.heap.size, 0, none⟩) [.string sx] := hnews
            have HN := Lib.hid hnews'
            clear hnb hmem hnews hnews'
            go_wp2_with (at_builtin; refine wpList_append_row _ rfl _ _ 29 rfl w.heap.size 9 1 16 _ Tryd.underlying29 Tryd.info_str rfl (by decide) (.slice A1 j c1) j (cs.map str) rfl (Row.alloc (w := wo.drewN nd) (HR.out.at_ (fun _ _ => rfl)) _) (some ⟨wo.heap.size, 0, none⟩) 1 1 [.string sx] rfl rfl HN.out (by simp [Value.oneCell']) (by omega) (by simp only [maxLen]; omega) (by simp; omega) ?_; intro A2 c2 w2 hrow2 hg2 hob2; have B2 : Below w.heap.size w w2 := Below.grown ((belowN HW.out nd).alloc (by simp; omega) _) hg2 (by simp; omega) (fun j e => (HR.out.lt j e).1))
            have hrow3 : Row w2 w.heap.size 9 1 (.slice A2 (j + 1) c2) (j + 1) ((cs ++ [x.c]).map str) := by
              rw [List.map_append, List.map_singleton, lit_of HSX.out]
              exact hrow2
            have HR3 := Lib.hid hrow3
            have HB2 := Lib.hid B2
            have HM3 : Hid (j + 1 = (cs ++ [x.c]).length) := Lib.hid (by rw [List.length_append, ← HM.out]; rfl)
            clear hrow2 hrow3 hg2 hob2 B2
            go_roundw
            case rel => exact ⟨k + 1, j + 1, _, A2, c2, rfl, Lib.hid (by have := HI.out; omega), by omega, by omega, Lib.hid (by rw [HNB.out]; exact HM3.out), rfl, Lib.hid (by rw [HNB.out]; exact HR3.out), HB2⟩
            case measure => simp [intOf]
    · obtain rfl : k = l.length := by omega
      obtain rfl : z = -1 := by have := HZ.out; omega
      go_wp2
      go_ret
      have hrow := HR.out
      have hmm := HM.out
      have e : l.reverse.take l.length = l.reverse := List.take_of_length_le (by simp)
      rw [e] at hrow hmm
      subst hmm
      exact ⟨_, _, rfl, hrow, HW.out⟩
end Go.Proofs.YtpemjhghiccngaaDoor
