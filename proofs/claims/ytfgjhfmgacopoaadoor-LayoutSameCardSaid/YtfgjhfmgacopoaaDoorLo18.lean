import Derived.Test.YtfgjhfmgacopoaaDoorLo17
namespace Go.Proofs.YtfgjhfmgacopoaaDoor
set_option linter.unusedVariables false
set_option linter.unusedSimpArgs false
open Go.RowKit Go.Shelf
/-! Chapter 18: ref18's Same. -/
structure RgO (w : World) (L : List RowT) (vv : Value) (vals : List Value) : Prop where
  out : Row w 0 49 1 vv L.length vals
  len : vals.length = L.length
  row : ∀ (k : Nat) (v : Value) (l : RowT), vals[k]? = some v → L[k]? = some l → Row w 0 70 3 v l.length (flatC l)
theorem RgO.keep {w w' : World} {L : List RowT} {vv : Value} {vals : List Value} (h : RgO w L vv vals) (hk : CellsKept w w') : RgO w' L vv vals :=
  ⟨h.out.keep hk, h.len, fun k v l e f => (h.row k v l e f).keep hk⟩
theorem RgO.later {w w' : World} {L : List RowT} {vv : Value} {vals : List Value} (h : RgO w L vv vals) (hb : Below w.heap.size w w') : RgO w' L vv vals :=
  h.keep fun k cs T m e => (hb.block k (lt_of_heap e)).trans e
theorem CpO.rg {w : World} {B : Nat} {L : List RowT} {v : Value} {vals : List Value} (h : CpO w B L vals) (hr : Row w B 49 1 v L.length vals) : RgO w L v vals :=
  ⟨hr.mono (Nat.zero_le _), h.len, fun k v l e f => (h.row k v l e f).mono (Nat.zero_le _)⟩
set_option maxHeartbeats 4000000 in
set_option maxRecDepth 100000 in
theorem rSame18_calls (w : World) (a b : FrameT) (v u : Value) (vs us : List Value) (hl : RgO w a.rows v vs) (hm : RgO w b.rows u us) (h1 : a.rows.length ≤ 1000000) (h2 : b.rows.length ≤ 1000000) (k1 : ∀ l ∈ a.rows, l.length ≤ 1000000) (k2 : ∀ l ∈ b.rows, l.length ≤ 1000000) :
    Calls Tryd.prog 20 #[frV v a, frV u b] w fun e w' => e = .returned (.bool (eqF a b)) ∧ Below w.heap.size w w' := by
  obtain ⟨A, c1, hv, _, _, hr, hA⟩ := hl.out.rd
  obtain ⟨A2, c2, hu, _, _, hr2, hA2⟩ := hm.out.rd
  have HLI := Lib.hid hl
  have HMI := Lib.hid hm
  have HR := Lib.hid hr
  have HR2 := Lib.hid hr2
  obtain ⟨L, r, c⟩ := a
  obtain ⟨M, r2, c2'⟩ := b
  unfold frV eqF
  dsimp only at HLI HMI h1 h2 k1 k2 hv hu ⊢
  subst hv hu
  have BB : ∀ x y : Array Value, Below w.heap.size w ((w.alloc (.cells x 46)).alloc (.cells y 46)) := fun x y => ((Below.refl _ w).alloc (Nat.le_refl _) _).alloc (by simp) _
  clear hl hm hr hr2 hA hA2
  by_cases hr : r = r2
  · have q1 : ((r : Int) != (r2 : Int)) = false := by simp [hr]
    have e1 := decide_eq_true hr
    by_cases hc : c = c2'
    · have q2 : ((c : Int) != (c2' : Int)) = false := by simp [hc]
      have e2 := decide_eq_true hc
      rw [e1, e2, Bool.true_and, Bool.true_and]
      clear hr hc e1 e2
      by_cases hlen : L.length = M.length
      · have q3 : ((L.length : Int) != (M.length : Int)) = false := by simp; omega
        have HLEN := Lib.hid hlen
        clear hlen
        go_enter Tryd.func20, Tryd.ntmps20
        go_wp2_with fail
        obtain ⟨W0, hW0⟩ : ∃ W0, W0 = (w.alloc (.cells #[.slice A L.length c1, .int .i64 (r : Int), .int .i64 (c : Int)] 46)).alloc (.cells #[.slice A2 M.length c2, .int .i64 (r2 : Int), .int .i64 (c2' : Int)] 46) := ⟨_, rfl⟩
        obtain ⟨b1, hb1⟩ : ∃ b, b = w.heap.size := ⟨_, rfl⟩
        obtain ⟨b2, hb2⟩ : ∃ b, b = w.heap.size + 1 := ⟨_, rfl⟩
        have Z1 : FrO W0 b1 (.slice A L.length c1) r c := by
          rw [hW0, hb1]
          exact (Below.heap_alloc _ _ _ (by simp)).trans (heap_alloc_new w _)
        have Z2 : FrO W0 b2 (.slice A2 M.length c2) r2 c2' := by
          rw [hW0, hb2]
          have := heap_alloc_new (w.alloc (.cells #[.slice A L.length c1, .int .i64 (r : Int), .int .i64 (c : Int)] 46)) (.cells #[.slice A2 M.length c2, .int .i64 (r2 : Int), .int .i64 (c2' : Int)] 46)
          rw [World.size_alloc] at this
          exact this
        have B0 : Below w.heap.size w W0 := by rw [hW0]; exact BB _ _
        rw [← hW0, ← hb2, ← hb1]
        have HB0 := Lib.hid B0
        have H1 := Lib.hid Z1
        have H2 := Lib.hid Z2
        clear hW0 hb1 hb2 BB Z1 Z2 B0 q1 q2 q3
        go_loopw [5] (fun u5 wr => ∃ k : Nat, u5 = n64 k ∧ k ≤ L.length ∧ Hid (L.take k = M.take k) ∧ Hid (Below W0.heap.size W0 wr)) (fun u5 _ => (L.length - intOf u5).toNat)
        case atStart => exact ⟨0, rfl, Nat.zero_le _, Lib.hid (by simp), Lib.hid (Below.refl _ _)⟩
        case round =>
          obtain ⟨k, rfl, hk, hp, hb⟩ := hrel
          have Z1 : FrO wr b1 (.slice A L.length c1) r c := (hb.out.block _ (lt_of_heap H1.out)).trans H1.out
          have Z2 : FrO wr b2 (.slice A2 M.length c2) r2 c2' := (hb.out.block _ (lt_of_heap H2.out)).trans H2.out
          have hbw : Below w.heap.size w wr := HB0.out.trans (hb.out.mono HB0.out.size)
          have c0 := Z1.cells.1
          by_cases hlt : k < L.length
          · have hltm : k < M.length := by have := HLEN.out; omega
            have d0 := Z2.cells.1
            obtain ⟨x, hx⟩ : ∃ x, L[k]? = some x := ⟨_, List.getElem?_eq_getElem hlt⟩
            obtain ⟨y, hy⟩ : ∃ y, M[k]? = some y := ⟨_, List.getElem?_eq_getElem hltm⟩
            obtain ⟨vx, hvx⟩ : ∃ x, vs[k]? = some x := ⟨_, List.getElem?_eq_getElem (by rw [HLI.out.len]; exact hlt)⟩
            obtain ⟨vy, hvy⟩ : ∃ y, us[k]? = some y := ⟨_, List.getElem?_eq_getElem (by rw [HMI.out.len]; exact hltm)⟩
            obtain ⟨g1, o1, rfl, a1⟩ := HR.out.later hbw k vx hvx
            obtain ⟨g2, o2, rfl, b1'⟩ := HR2.out.later hbw k vy hvy
            have FC := Lib.hid (fun W (hW : Below w.heap.size w W) => rSame17_calls W x y vx vy ((HLI.out.later hW).row k vx x hvx hx) ((HMI.out.later hW).row k vy y hvy hy) (k1 x (List.mem_of_getElem? hx)) (k2 y (List.mem_of_getElem? hy)))
            have r0 : (k : Int) < (L.length : Int) := by omega
            have r1 : (k : Int) < (M.length : Int) := by omega
            have HX := Lib.hid hx
            have HY := Lib.hid hy
            have HBW := Lib.hid hbw
            clear hx hy hvx hvy hbw HLI HMI HR HR2 k1 k2 Z1 Z2
            go_wp2_with fail
            go_still_tail 10, (by kernel_rfl)
            change wpList _ _ _ _ _ wr.drew
            have hd : Hid (Below w.heap.size w wr.drew) := Lib.hid HBW.out.drew
            have hd2 : Hid (Below W0.heap.size W0 wr.drew) := Lib.hid hb.out.drew
            clear c0 d0 a1 b1'
            generalize wr.drew = wd at hd hd2 ⊢
            go_wp2_with fail
            refine (FC.out _ hd.out).mono ?_
            rintro e w7 ⟨rfl, b7⟩
            have HD := Lib.hid (hd2.out.trans (b7.mono hd2.out.size))
            have HD2 := Lib.hid (hd.out.trans (b7.mono hd.out.size))
            clear b7
            by_cases he : x = y
            · have hdd : decide (x = y) = true := decide_eq_true he
              have hp2 : Hid (L.take (k + 1) = M.take (k + 1)) := Lib.hid (by
                rw [List.take_add_one, List.take_add_one, hp.out, HX.out, HY.out, he])
              clear he
              go_wp2_with fail
              go_roundw
              case rel => exact ⟨k + 1, by go_num, by omega, hp2, HD⟩
              case measure => simp [intOf]; omega
            · have hdd : decide (x = y) = false := decide_eq_false he
              have hne : decide (L = M) = false := decide_eq_false (fun e => he (by
                have h1 := HX.out
                rw [e, HY.out] at h1
                exact (Option.some.inj h1).symm))
              have HNE := Lib.hid hne
              clear he hne
              go_wp2_with fail
              go_ret
              exact ⟨by rw [HNE.out]; rfl, HD2.out⟩
          · obtain rfl : k = L.length := by omega
            have he : L = M := by
              have := hp.out
              rw [List.take_length, HLEN.out, List.take_length] at this
              exact this
            have HE := Lib.hid (decide_eq_true he : decide (L = M) = true)
            have HBW := Lib.hid hbw
            clear he hbw Z1 Z2
            go_wp2_with fail
            go_ret
            exact ⟨by rw [HE.out]; rfl, HBW.out⟩
      · have q3 : ((L.length : Int) != (M.length : Int)) = true := by simp; omega
        have hne : decide (L = M) = false := decide_eq_false (fun e => hlen (by rw [e]))
        rw [hne]
        clear hlen hne
        go_enter Tryd.func20, Tryd.ntmps20
        go_wp2_with fail
        go_ret
        exact ⟨rfl, BB _ _⟩
    · have q2 : ((c : Int) != (c2' : Int)) = true := by simp; omega
      have e2 := decide_eq_false hc
      rw [e1, e2, Bool.true_and, Bool.false_and]
      clear hr hc e1 e2
      go_enter Tryd.func20, Tryd.ntmps20
      go_wp2_with fail
      go_ret
      exact ⟨rfl, BB _ _⟩
  · have q1 : ((r : Int) != (r2 : Int)) = true := by simp; omega
    have e1 := decide_eq_false hr
    rw [e1, Bool.false_and]
    clear hr e1
    go_enter Tryd.func20, Tryd.ntmps20
    go_wp2_with fail
    go_ret
    exact ⟨rfl, BB _ _⟩
end Go.Proofs.YtfgjhfmgacopoaaDoor
