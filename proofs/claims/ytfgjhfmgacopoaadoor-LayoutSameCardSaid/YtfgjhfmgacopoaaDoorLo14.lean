import Derived.Test.YtfgjhfmgacopoaaDoorLo13
namespace Go.Proofs.YtfgjhfmgacopoaaDoor
set_option linter.unusedVariables false
set_option linter.unusedSimpArgs false
open Go.RowKit Go.Shelf
/-! Chapter 18: few. -/
def ViewT.fewB (v : ViewT) : Bool := decide (v.left.length + v.right.length + v.ghost.length + v.text.length ≤ 4000)
set_option maxHeartbeats 4000000 in
theorem few18_calls (v : ViewT) (h1 : v.left.length ≤ 140737488351232) (h2 : v.right.length ≤ 140737488351232) (h3 : v.ghost.length ≤ 140737488351232) (h4 : v.text.length ≤ 140737488351232) (w : World) :
    Calls Tryd.prog 9 #[v.val] w fun e w' => e = .returned (.bool v.fewB) ∧ Below w.heap.size w w' := by
  have s1 := str_of v.left
  have s2 := str_of v.right
  have s3 := str_of v.ghost
  have s4 := str_of v.text
  have t1 : IntKind.i64.wrap ((v.left.length : Int) + (v.right.length : Int)) = (v.left.length : Int) + (v.right.length : Int) := IntWalk.i64_in _ (by omega)
  have t2 : IntKind.i64.wrap ((v.left.length : Int) + (v.right.length : Int) + (v.ghost.length : Int)) = (v.left.length : Int) + (v.right.length : Int) + (v.ghost.length : Int) := IntWalk.i64_in _ (by omega)
  have t3 : IntKind.i64.wrap ((v.left.length : Int) + (v.right.length : Int) + (v.ghost.length : Int) + (v.text.length : Int)) = (v.left.length : Int) + (v.right.length : Int) + (v.ghost.length : Int) + (v.text.length : Int) := IntWalk.i64_in _ (by omega)
  have hf : decide ((v.left.length : Int) + (v.right.length : Int) + (v.ghost.length : Int) + (v.text.length : Int) ≤ 4000) = v.fewB := by
    unfold ViewT.fewB
    rw [Bool.eq_iff_iff]
    simp only [decide_eq_true_eq]
    omega
  have HF := Lib.hid hf
  clear hf
  unfold ViewT.val
  go_enter Tryd.func9, Tryd.ntmps9
  go_wp2
  go_ret
  exact ⟨by rw [← HF.out]; rfl, (Below.refl _ w).alloc (Nat.le_refl _) _⟩
theorem info_rcell : (Tryd.prog.info? 70).map (fun i => (i.zero, i.size, i.bytes)) = some (some (.agg #[.string ⟨#[]⟩, .int .i64 0, .bool false]), 3, 32) := by kernel_rfl
set_option maxHeartbeats 4000000 in
set_option maxRecDepth 100000 in
/-- law17's Old. -/
theorem Old17_calls (w : World) (l : RowT) (v : Value) (hl : Row w 0 33 3 v l.length (flatC l)) (h1 : l.length ≤ 1000000) :
    Calls Tryd.prog 23 #[v] w fun e w' => ∃ A c, e = .returned (.slice A l.length c) ∧ Row w' w.heap.size 70 3 (.slice A l.length c) l.length (flatC l) ∧ Below w.heap.size w w' := by
  obtain ⟨A, c, hv, _, _, _, _⟩ := hl.rd
  have HL := Lib.hid hl
  subst hv
  clear hl
  go_enter Tryd.func23, Tryd.ntmps23
  go_wp2
  go_loopw [3, 8] (fun u3 u8 wr => ∃ (k : Nat) (Ao : Option Addr) (co : Nat), u8 = n64 k ∧ k ≤ l.length ∧ u3 = .slice Ao k co ∧ Hid (Row wr w.heap.size 70 3 (.slice Ao k co) k (flatC (l.take k))) ∧ Below w.heap.size w wr) (fun _ u8 _ => (l.length - intOf u8).toNat)
  case atStart => exact ⟨0, _, _, rfl, Nat.zero_le _, rfl, Lib.hid (Row.nil _ _ _ _), Below.refl _ _⟩
  case round =>
    obtain ⟨k, Ao, co, rfl, hk, rfl, hrow, hb⟩ := hrel
    by_cases hlt : k < l.length
    · obtain ⟨x, hx⟩ : ∃ x, l[k]? = some x := ⟨_, List.getElem?_eq_getElem hlt⟩
      have kb : CellsKept w wr := fun k cs T m e => (hb.block k (lt_of_heap e)).trans e
      obtain ⟨g1, o1, rfl, a1, a2, a3⟩ := (HL.out.keep kb).cell3 rfl hx
      have r0 : (k : Int) < (l.length : Int) := by omega
      have hz1 : g1 < wr.heap.size := World.block_lt_of_cell? wr _ a1
      have HX := Lib.hid hx
      have HB := Lib.hid hb
      have hBr := hb.size
      clear hx kb hb HL
      have e1 : (k + 1) * 32 ≤ 140737488355328 := by omega
      have e2 : k + 1 ≤ maxLen := by simp only [maxLen]; omega
      have HW := Lib.hid (hrow.out.below (((Below.refl wr.heap.size wr).alloc (Nat.le_refl _) (.cells #[.string ⟨x.s.toArray⟩, .int .i64 x.wd, .bool x.dim] 33)).alloc (by simp) (.cells #[.string ⟨x.s.toArray⟩, .int .i64 x.wd, .bool x.dim] 70)) (Nat.le_refl _))
      have RN : Rd ((wr.alloc (.cells #[.string ⟨x.s.toArray⟩, .int .i64 x.wd, .bool x.dim] 33)).alloc (.cells #[.string ⟨x.s.toArray⟩, .int .i64 x.wd, .bool x.dim] 70)) (some ⟨wr.heap.size + 1, 0, none⟩) (cellV x) := by
        have := rd_cells (b := wr.heap.size + 1) (l := cellV x) (T := 70) (w := (wr.alloc (.cells #[.string ⟨x.s.toArray⟩, .int .i64 x.wd, .bool x.dim] 33)).alloc (.cells #[.string ⟨x.s.toArray⟩, .int .i64 x.wd, .bool x.dim] 70)) (by
          have := heap_alloc_new (wr.alloc (.cells #[.string ⟨x.s.toArray⟩, .int .i64 x.wd, .bool x.dim] 33)) (.cells #[.string ⟨x.s.toArray⟩, .int .i64 x.wd, .bool x.dim] 70)
          rwa [World.size_alloc] at this)
        exact this
      have HRN := Lib.hid RN
      have HO := Lib.hid hrow.out.lt
      have ones : ∀ u ∈ cellV x, u.oneCell' = true := fun u hu => flatC_one [x] u (by simpa [flatC] using hu)
      have HON := Lib.hid ones
      clear hrow RN ones
      go_wp2_with (at_builtin; refine wpList_append_row _ rfl _ _ 49 rfl w.heap.size 70 3 32 _ Tryd.underlying49 info_rcell rfl (by decide) (.slice Ao k co) k (flatC (l.take k)) rfl HW.out (some ⟨wr.heap.size + 1, 0, none⟩) 1 1 (cellV x) rfl rfl HRN.out HON.out e1 e2 (by simp; omega) ?_; intro A1 c1 w1 hrow1 hg1 hb1)
      have D1 : Below w.heap.size w w1 := ((HB.out.alloc hBr _).alloc (by simp; omega) _).grown hg1 (by simp; omega) (fun j ej => (HO.out j ej).1)
      have hrow2 : Hid (Row w1 w.heap.size 70 3 (.slice A1 (k + 1) c1) (k + 1) (flatC (l.take (k + 1)))) := Lib.hid (by
        rw [List.take_add_one, HX.out, flatC_app]
        simpa [flatC] using hrow1)
      clear hrow1 hg1 hb1 a1 a2 a3
      go_roundw
      case rel => exact ⟨k + 1, _, _, by go_num, by omega, rfl, hrow2, D1⟩
      case measure => simp [intOf]; omega
    · obtain rfl : k = l.length := by omega
      have hr := hrow.out
      rw [List.take_length] at hr
      have HR := Lib.hid hr
      clear hr
      go_wp2
      go_ret
      exact ⟨_, _, rfl, HR.out, hb⟩
theorem Row.cell3e {w : World} {B : Nat} {e : TypeId} {v : Value} {l : RowT} (h : Row w B e 3 v l.length (flatC l)) {A : Option Addr} {n c : Nat} (hv : v = .slice A n c) {k : Nat} {x : CellT} (hk : l[k]? = some x) :
    ∃ g o, A = some ⟨g, o, none⟩ ∧ w.cell? ⟨g, o + k * 3, none⟩ = some (str x.s) ∧ w.cell? ⟨g, o + k * 3 + 1, none⟩ = some (.int .i64 x.wd) ∧ w.cell? ⟨g, o + k * 3 + 2, none⟩ = some (.bool x.dim) := by
  obtain ⟨A', c', hv', _, _, hrd, _⟩ := h.rd
  rw [hv] at hv'
  injection hv' with e1 e2 e3
  subst e1
  obtain ⟨g, o, ea, h0⟩ := hrd (k * 3) _ (flatC_get hk 0 _ rfl)
  obtain ⟨g1, o1, ea1, h1⟩ := hrd (k * 3 + 1) _ (flatC_get hk 1 _ rfl)
  obtain ⟨g2, o2, ea2, h2⟩ := hrd (k * 3 + 2) _ (flatC_get hk 2 _ rfl)
  subst ea
  cases ea1; cases ea2
  exact ⟨g, o, rfl, h0, h1, h2⟩
theorem neq_rcell (a b : CellT) (W : World) : (binOp .neq 70 (aggC a) (aggC b)).run Tryd.prog W = .ok (.bool (!decide (a = b))) W := by
  obtain ⟨f, g, k, hfg, hf, hg, hk⟩ : ∃ f g k : Field, (Tryd.prog.fieldsOf 70).toList = [f, g, k] ∧ (f.type = 9 ∧ f.offset = 0 ∧ f.name = "S") ∧ (g.type = 3 ∧ g.offset = 1 ∧ g.name = "Wide") ∧ (k.type = 4 ∧ k.offset = 2 ∧ k.name = "Dim") := ⟨⟨"S", 9, 0, false, "", "", 0⟩, ⟨"Wide", 3, 1, false, "", "", 16⟩, ⟨"Dim", 4, 2, false, "", "", 24⟩, by kernel_rfl, ⟨rfl, rfl, rfl⟩, ⟨rfl, rfl, rfl⟩, ⟨rfl, rfl, rfl⟩⟩
  unfold aggC cellV
  rw [run_neq_struct, run_equalIn_agg W 9999 _ _ _ (by kernel_rfl) (by kernel_rfl), hfg, eq_fields3 f g k ⟨hf.1, hf.2.1, by rw [hf.2.2]; decide⟩ ⟨hg.1, hg.2.1, by rw [hg.2.2]; decide⟩ ⟨hk.1, hk.2.1, by rw [hk.2.2]; decide⟩ Tryd.underlying9 Tryd.underlying3 Tryd.underlying4]
  rw [← cell_beq]
  rfl
set_option maxHeartbeats 4000000 in
set_option maxRecDepth 100000 in
/-- ref17's Same. -/
theorem rSame17_calls (w : World) (l m : RowT) (v u : Value) (hl : Row w 0 70 3 v l.length (flatC l)) (hm : Row w 0 70 3 u m.length (flatC m)) (h1 : l.length ≤ 1000000) (h2 : m.length ≤ 1000000) :
    Calls Tryd.prog 22 #[v, u] w fun e w' => e = .returned (.bool (decide (l = m))) ∧ Below w.heap.size w w' := by
  obtain ⟨A, c, hv, _, _, _, hA⟩ := hl.rd
  obtain ⟨A2, c2, hu, _, _, _, hA2⟩ := hm.rd
  have HL := Lib.hid hl
  have HM := Lib.hid hm
  by_cases hlen : l.length = m.length
  · have q0 : ((l.length : Int) != (m.length : Int)) = false := by simp; omega
    have HLEN := Lib.hid hlen
    subst hv hu
    clear hl hm hA hA2 hlen
    go_enter Tryd.func22, Tryd.ntmps22
    go_wp2
    go_loopw [5] (fun u5 wr => ∃ k : Nat, u5 = n64 k ∧ k ≤ l.length ∧ Hid (l.take k = m.take k) ∧ Below w.heap.size w wr) (fun u5 _ => (l.length - intOf u5).toNat)
    case atStart => exact ⟨0, rfl, Nat.zero_le _, Lib.hid (by simp), Below.refl _ _⟩
    case round =>
      obtain ⟨k, rfl, hk, hp, hb⟩ := hrel
      by_cases hlt : k < l.length
      · have hltm : k < m.length := by have := HLEN.out; omega
        obtain ⟨x, hx⟩ : ∃ x, l[k]? = some x := ⟨_, List.getElem?_eq_getElem hlt⟩
        obtain ⟨y, hy⟩ : ∃ y, m[k]? = some y := ⟨_, List.getElem?_eq_getElem hltm⟩
        have kb : CellsKept w wr := fun k cs T m e => (hb.block k (lt_of_heap e)).trans e
        obtain ⟨g1, o1, rfl, a1, a2, a3⟩ := (HL.out.keep kb).cell3e rfl hx
        obtain ⟨g2, o2, rfl, b1, b2, b3⟩ := (HM.out.keep kb).cell3e rfl hy
        have r0 : (k : Int) < (l.length : Int) := by omega
        have r1 : (k : Int) < (m.length : Int) := by omega
        have hq : ∀ W, (binOp .neq 70 (.agg #[str x.s, .int .i64 x.wd, .bool x.dim]) (.agg #[str y.s, .int .i64 y.wd, .bool y.dim])).run Tryd.prog W = .ok (.bool (!decide (x = y))) W := fun W => neq_rcell x y W
        have HX := Lib.hid hx
        have HY := Lib.hid hy
        have HB := Lib.hid hb
        clear hx hy kb hb HL HM
        by_cases he : x = y
        · have hd : decide (x = y) = true := decide_eq_true he
          have hp2 : Hid (l.take (k + 1) = m.take (k + 1)) := Lib.hid (by
            rw [List.take_add_one, List.take_add_one, hp.out, HX.out, HY.out, he])
          rw [hd] at hq
          clear he hd
          go_wp2_with fail
          go_quiet (fail)
          rename_i nq
          have HD := Lib.hid (HB.out.trans ((below_drewN wr nq).mono HB.out.size))
          go_wp2_with fail
          go_roundw
          case rel => exact ⟨k + 1, by go_num, by omega, hp2, HD.out⟩
          case measure => simp [intOf]; omega
        · have hd : decide (x = y) = false := decide_eq_false he
          have hne : decide (l = m) = false := decide_eq_false (fun e => he (by
            have h1 := HX.out
            rw [e, HY.out] at h1
            exact (Option.some.inj h1).symm))
          have HNE := Lib.hid hne
          rw [hd] at hq
          clear he hne hd
          go_wp2_with fail
          go_quiet (fail)
          rename_i nq
          have HD := Lib.hid (HB.out.trans ((below_drewN wr nq).mono HB.out.size))
          go_wp2_with fail
          go_ret
          exact ⟨by rw [HNE.out]; rfl, HD.out⟩
      · obtain rfl : k = l.length := by omega
        have he : l = m := by
          have := hp.out
          rw [List.take_length, HLEN.out, List.take_length] at this
          exact this
        have HE := Lib.hid (decide_eq_true he : decide (l = m) = true)
        clear he
        go_wp2_with fail
        go_ret
        exact ⟨by rw [HE.out]; rfl, hb⟩
  · have q0 : ((l.length : Int) != (m.length : Int)) = true := by simp; omega
    have hne : decide (l = m) = false := decide_eq_false (fun e => hlen (by rw [e]))
    rw [hne]
    subst hv hu
    clear hlen hl hm hA hA2
    go_enter Tryd.func22, Tryd.ntmps22
    go_wp2
    go_ret
    exact ⟨rfl, Below.refl _ _⟩
end Go.Proofs.YtfgjhfmgacopoaaDoor
