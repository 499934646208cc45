import Derived.Test.YtfgjhfmgacopoaaDoorLo11
import Derived.Laws.StructEq
namespace Go.Proofs.YtfgjhfmgacopoaaDoor
set_option linter.unusedVariables false
set_option linter.unusedSimpArgs false
open Go.RowKit Go.Shelf
/-! Chapter 18: copies of frames; whether frames are the same. -/
/-- A frame's rows, to be read. -/
structure FrG (w : World) (B : Nat) (L : List RowT) (vv : Value) (vals : List Value) : Prop where
  out : Row w B 31 1 vv L.length vals
  len : vals.length = L.length
  row : ∀ (k : Nat) (v : Value) (l : RowT), vals[k]? = some v → L[k]? = some l → Row w B 33 3 v l.length (flatC l)
theorem FrG.keep {w w' : World} {B : Nat} {L : List RowT} {vv : Value} {vals : List Value} (h : FrG w B L vv vals) (hk : CellsKept w w') : FrG w' B L vv vals :=
  ⟨h.out.keep hk, h.len, fun k v l e f => (h.row k v l e f).keep hk⟩
theorem FrG.later {w w' : World} {B : Nat} {L : List RowT} {vv : Value} {vals : List Value} (h : FrG w B L vv vals) (hb : Below w.heap.size w w') : FrG w' B L vv vals :=
  h.keep fun k cs T m e => (hb.block k (lt_of_heap e)).trans e
theorem FrG.mono {w : World} {B B' : Nat} {L : List RowT} {vv : Value} {vals : List Value} (h : FrG w B L vv vals) (hB : B' ≤ B) : FrG w B' L vv vals :=
  ⟨h.out.mono hB, h.len, fun k v l e f => (h.row k v l e f).mono hB⟩
theorem RowsAt.frG {w : World} {B cols : Nat} {L : List RowT} {vv : Value} {rs : List Nat} (h : RowsAt w B cols L vv rs) (hc : cols ≤ 120) : FrG w B L vv (rs.map (rowV cols)) :=
  ⟨h.out, by simpa using h.rl, fun k v l e f => by
    rw [List.getElem?_map] at e
    cases hr : rs[k]? with
    | none => rw [hr] at e; cases e
    | some r =>
      rw [hr] at e
      cases e
      obtain ⟨x, y, z⟩ := h.rows k r l hr f
      refine ⟨flatC_len l, .inr ⟨r, 0, cols, (flatC l).toArray, by rw [z], y, x, by omega, by simp only [maxLen]; omega, ?_, ?_⟩⟩
      · simp only [List.size_toArray]; rw [flatC_len, z]; omega
      · simp only [List.drop_zero]; rw [List.take_of_length_le (by rw [flatC_len]; exact Nat.le_refl _)]⟩
theorem info_cell3 : (Tryd.prog.info? 33).map (fun i => (i.zero, i.size, i.bytes)) = some (some (.agg #[.string ⟨#[]⟩, .int .i64 0, .bool false]), 3, 32) := by kernel_rfl
set_option maxRecDepth 100000 in
set_option maxHeartbeats 1600000 in
theorem CloneC_calls (w : World) (v : Value) (l : RowT) (hr : Row w 0 33 3 v l.length (flatC l)) (hl : l.length ≤ 1000000) :
    Calls Tryd.prog 33 #[v] w fun e w' => ∃ A1 c1, e = .returned (.slice A1 l.length c1) ∧ Row w' w.heap.size 33 3 (.slice A1 l.length c1) l.length (flatC l) ∧ Below w.heap.size w w' := by
  obtain ⟨A, c, rfl, _, _, hrd, _⟩ := hr.rd
  cases A with
  | none =>
    have h0 : l.length = 0 ∧ c = 0 := by
      rcases hr.2 with ⟨e, h⟩ | ⟨g, off, cap, cur, e, _⟩
      · injection e with _ _ e3; exact ⟨h, e3⟩
      · cases e
    obtain ⟨h0, rfl⟩ := h0
    have hl0 : l = [] := List.eq_nil_of_length_eq_zero h0
    subst hl0
    clear hr hrd
    have hnil : ∀ W, (binOp .eql 31 (.slice none 0 0) (.slice none 0 0)).run Tryd.prog W = .ok (.bool true) W := fun W => Lib.run_eql_slice_nil W 31 33 _ _ _ _ _ Tryd.underlying31
    go_enter Tryd.func33, Tryd.ntmps33
    go_wp2
    go_ret
    exact ⟨_, _, rfl, Row.nil _ _ _ _, Below.refl _ _⟩
  | some a =>
    have HRD := Lib.hid (hrd.later ((Below.refl _ w).alloc (Nat.le_refl _) (.cells #[] 33)))
    have HO := Lib.hid (flatC_one l)
    have HL := Lib.hid (flatC_len l)
    clear hr hrd
    have hnil : ∀ W, (binOp .eql 31 (.slice (some a) l.length c) (.slice none 0 0)).run Tryd.prog W = .ok (.bool false) W := fun W => Lib.run_eql_slice_nil W 31 33 _ _ _ _ _ Tryd.underlying31
    go_enter Tryd.func33, Tryd.ntmps33
    go_wp2_with (at_builtin; refine wpList_append_row _ rfl _ _ 31 rfl w.heap.size 33 3 32 _ Tryd.underlying31 info_cell3 rfl (by decide) (.slice (some ⟨w.heap.size, 0, none⟩) 0 0) 0 [] rfl (Row.new w #[] w.heap.size 33 3 0 (Nat.le_refl _) (by simp [maxLen]) (by simp)) (some a) l.length c (flatC l) rfl HL.out HRD.out HO.out (by omega) (by simp only [maxLen]; omega) (by simp) ?_; intro A1 c1 w1 hrow1 hg1 hb1)
    go_ret
    simp only [Nat.zero_add, List.nil_append] at hrow1 ⊢
    exact ⟨_, _, rfl, hrow1, ((Below.refl _ w).alloc (Nat.le_refl _) _).grown hg1 (by simp) (fun j e => by simp [Value.ownBlock] at e; omega)⟩
theorem eq_fields3 {P : Program} {ts ti tb : TypeId} (f g k : Field) (hf : f.type = ts ∧ f.offset = 0 ∧ f.name ≠ "_") (hg : g.type = ti ∧ g.offset = 1 ∧ g.name ≠ "_") (hk : k.type = tb ∧ k.offset = 2 ∧ k.name ≠ "_") (h1 : P.underlying ts = some .string) (h2 : P.underlying ti = some (.int .i64)) (h3 : P.underlying tb = some .bool)
    (x y : ByteArray) (n m : Int) (p q : Bool) (W : World) : (Op.eqFields 9999 #[.string x, .int .i64 n, .bool p] #[.string y, .int .i64 m, .bool q] [f, g, k]).run P W = .ok (x.toList == y.toList && (n == m && p == q)) W := by
  obtain ⟨rfl, ho, hn⟩ := hf
  obtain ⟨rfl, go, gn⟩ := hg
  obtain ⟨rfl, ko, kn⟩ := hk
  have p1 : ∀ u v z W, (part f.type #[u, v, z] f.offset).run P W = .ok u W := fun u v z W => by rw [ho]; simp [part, isAgg, run_underlying h1, go_sem]
  have p2 : ∀ u v z W, (part g.type #[u, v, z] g.offset).run P W = .ok v W := fun u v z W => by rw [go]; simp [part, isAgg, run_underlying h2, go_sem]
  have p3 : ∀ u v z W, (part k.type #[u, v, z] k.offset).run P W = .ok z W := fun u v z W => by rw [ko]; simp [part, isAgg, run_underlying h3, go_sem]
  simp only [Op.eqFields, hn, gn, kn, ne_eq, not_false_eq_true, if_true, Sem.run_bind, p1, p2, p3, Result.andThen_ok, run_equalIn_string W 9998 f.type x y h1, run_equalIn_int W 9998 g.type .i64 .i64 n m h2, run_equalIn_bool' W 9998 k.type p q h3]
  cases hc : (x.toList == y.toList) with
  | false => simp
  | true =>
    simp only [Bool.not_true, Bool.false_eq_true, if_false, Sem.run_bind, p2, p3, Result.andThen_ok, run_equalIn_int W 9998 g.type .i64 .i64 n m h2, run_equalIn_bool' W 9998 k.type p q h3, Bool.true_and]
    cases hd : (n == m) with
    | false => simp
    | true =>
      simp only [Bool.not_true, Bool.false_eq_true, if_false, Sem.run_bind, p3, Result.andThen_ok, run_equalIn_bool' W 9998 k.type p q h3, Bool.true_and]
      cases he : (p == q) <;> simp
theorem cell_beq (a b : CellT) : ((⟨a.s.toArray⟩ : ByteArray).toList == (⟨b.s.toArray⟩ : ByteArray).toList && (a.wd == b.wd && a.dim == b.dim)) = decide (a = b) := by
  rw [str_beq rfl rfl]
  cases a; cases b
  rw [Bool.eq_iff_iff]
  simp
theorem eq_cell (a b : CellT) (W : World) : (binOp .eql 33 (aggC a) (aggC b)).run Tryd.prog W = .ok (.bool (decide (a = b))) W := by
  obtain ⟨f, g, k, hfg, hf, hg, hk⟩ : ∃ f g k : Field, (Tryd.prog.fieldsOf 33).toList = [f, g, k] ∧ (f.type = 9 ∧ f.offset = 0 ∧ f.name = "S") ∧ (g.type = 3 ∧ g.offset = 1 ∧ g.name = "Wide") ∧ (k.type = 4 ∧ k.offset = 2 ∧ k.name = "Dim") := ⟨⟨"S", 9, 0, false, "", "", 0⟩, ⟨"Wide", 3, 1, false, "", "", 16⟩, ⟨"Dim", 4, 2, false, "", "", 24⟩, by kernel_rfl, ⟨rfl, rfl, rfl⟩, ⟨rfl, rfl, rfl⟩, ⟨rfl, rfl, rfl⟩⟩
  unfold aggC cellV
  rw [run_eql_struct, run_equalIn_agg W 9999 _ _ _ (by kernel_rfl) (by kernel_rfl), hfg, eq_fields3 f g k ⟨hf.1, hf.2.1, by rw [hf.2.2]; decide⟩ ⟨hg.1, hg.2.1, by rw [hg.2.2]; decide⟩ ⟨hk.1, hk.2.1, by rw [hk.2.2]; decide⟩ Tryd.underlying9 Tryd.underlying3 Tryd.underlying4]
  rw [← cell_beq]
  rfl
set_option maxHeartbeats 1600000 in
theorem Same11_calls (a b : CellT) (w : World) : Calls Tryd.prog 36 #[aggC a, aggC b] w fun e w' => e = .returned (.bool (decide (a = b))) ∧ Below w.heap.size w w' := by
  have he := fun W => eq_cell a b W
  unfold aggC cellV at he ⊢
  go_enter Tryd.func36, Tryd.ntmps36
  go_wp2
  go_ret
  exact ⟨rfl, ((Below.refl _ w).alloc (Nat.le_refl _) _).alloc (by simp) _⟩
theorem callFunc_11 (args : Array Value) (W : World) : (callFunc 36 args).run Tryd.prog W = .ok (.enter 36 args) W := enters_of Tryd.func36 (by kernel_rfl) rfl args W
/-- What an element of a row of cells reads. -/
theorem Row.cell3 {w : World} {B : Nat} {v : Value} {l : RowT} (h : Row w B 33 3 v l.length (flatC l)) {A : Option Addr} {n c : Nat} (hv : v = .slice A n c) {k : Nat} {x : CellT} (hk : l[k]? = some x) :
    ∃ g o, A = some ⟨g, o, none⟩ ∧ w.cell? ⟨g, o + k * 3, none⟩ = some (str x.s) ∧ w.cell? ⟨g, o + k * 3 + 1, none⟩ = some (.int .i64 x.wd) ∧ w.cell? ⟨g, o + k * 3 + 2, none⟩ = some (.bool x.dim) := by
  obtain ⟨A', c', hv', _, _, hrd, _⟩ := h.rd
  rw [hv] at hv'
  injection hv' with e1 e2 e3
  subst e1
  obtain ⟨g, o, ea, h0⟩ := hrd (k * 3) _ (flatC_get hk 0 _ rfl)
  obtain ⟨g1, o1, ea1, h1⟩ := hrd (k * 3 + 1) _ (flatC_get hk 1 _ rfl)
  obtain ⟨g2, o2, ea2, h2⟩ := hrd (k * 3 + 2) _ (flatC_get hk 2 _ rfl)
  subst ea
  cases ea1; cases ea2
  exact ⟨g, o, rfl, h0, h1, h2⟩
set_option maxHeartbeats 4000000 in
set_option maxRecDepth 100000 in
theorem EqC_calls (w : World) (l m : RowT) (v u : Value) (hl : Row w 0 33 3 v l.length (flatC l)) (hm : Row w 0 33 3 u m.length (flatC m)) (h1 : l.length ≤ 1000000) (h2 : m.length ≤ 1000000) :
    Calls Tryd.prog 35 #[v, u, .func (.func 36) #[] #[]] w fun e w' => e = .returned (.bool (decide (l = m))) ∧ Below w.heap.size w w' := by
  obtain ⟨A, c, hv, _, _, _, hA⟩ := hl.rd
  obtain ⟨A2, c2, hu, _, _, _, hA2⟩ := hm.rd
  have HL := Lib.hid hl
  have HM := Lib.hid hm
  have CF := Lib.hid callFunc_11
  by_cases hlen : l.length = m.length
  · have q0 : ((l.length : Int) != (m.length : Int)) = false := by simp; omega
    have HLEN := Lib.hid hlen
    subst hv hu
    clear hl hm hA hA2
    have h2' : m.length ≤ 1000000 := h2
    go_enter Tryd.func35, Tryd.ntmps35
    clear hlen
    go_wp2
    go_loopw [17] (fun u17 wr => ∃ k : Nat, u17 = n64 k ∧ k ≤ l.length ∧ Hid (l.take k = m.take k) ∧ Below w.heap.size w wr) (fun u17 _ => (l.length - intOf u17).toNat)
    case atStart => exact ⟨0, rfl, Nat.zero_le _, Lib.hid (by simp), Below.refl _ _⟩
    case round =>
      obtain ⟨k, rfl, hk, hp, hb⟩ := hrel
      by_cases hlt : k < l.length
      · have hltm : k < m.length := by have := HLEN.out; omega
        obtain ⟨x, hx⟩ : ∃ x, l[k]? = some x := ⟨_, List.getElem?_eq_getElem hlt⟩
        obtain ⟨y, hy⟩ : ∃ y, m[k]? = some y := ⟨_, List.getElem?_eq_getElem hltm⟩
        have kb : CellsKept w wr := fun k cs T m e => (hb.block k (lt_of_heap e)).trans e
        obtain ⟨g1, o1, rfl, a1, a2, a3⟩ := (HL.out.keep kb).cell3 rfl hx
        obtain ⟨g2, o2, rfl, b1, b2, b3⟩ := (HM.out.keep kb).cell3 rfl hy
        have FC := Lib.hid (fun W => show Calls Tryd.prog 36 #[.agg #[str x.s, .int .i64 x.wd, .bool x.dim], .agg #[str y.s, .int .i64 y.wd, .bool y.dim]] W fun e w' => e = .returned (.bool (decide (x = y))) ∧ Below W.heap.size W w' from Same11_calls x y W)
        have r0 : (k : Int) < (l.length : Int) := by omega
        have r1 : (k : Int) < (m.length : Int) := by omega
        have hz1 : g1 < wr.heap.size := World.block_lt_of_cell? wr _ a1
        have hz2 : g2 < wr.heap.size := World.block_lt_of_cell? wr _ b1
        have HX := Lib.hid hx
        have HY := Lib.hid hy
        have HB := Lib.hid hb
        have hfun := CF.out
        clear hx hy kb hb HL HM
        go_wp2_with fail
        refine (FC.out _).mono ?_
        rintro e w7 ⟨rfl, b7⟩
        have D7 : Below w.heap.size w w7 := HB.out.trans ((((Below.refl wr.heap.size wr).alloc (Nat.le_refl _) _).alloc (by simp) _).trans (b7.mono (by simp; omega)) |>.mono HB.out.size)
        have HD := Lib.hid D7
        clear a1 a2 a3 b1 b2 b3 hfun b7 D7 hz1 hz2
        by_cases he : x = y
        · have hd : decide (x = y) = true := decide_eq_true he
          have hp2 : Hid (l.take (k + 1) = m.take (k + 1)) := Lib.hid (by
            rw [List.take_add_one, List.take_add_one, hp.out, HX.out, HY.out, he])
          clear he
          go_wp2_with fail
          go_roundw
          case rel => exact ⟨k + 1, by go_num, by omega, hp2, HD.out⟩
          case measure => simp [intOf]; omega
        · have hd : decide (x = y) = false := decide_eq_false he
          have hne : decide (l = m) = false := decide_eq_false (fun e => he (by
            have h1 := HX.out
            rw [e, HY.out] at h1
            exact (Option.some.inj h1).symm))
          have HNE := Lib.hid hne
          clear he hne
          go_wp2_with fail
          go_ret
          exact ⟨by rw [HNE.out]; rfl, HD.out⟩
      · obtain rfl : k = l.length := by omega
        have he : l = m := by
          have := hp.out
          rw [List.take_length, HLEN.out, List.take_length] at this
          exact this
        have HE := Lib.hid (decide_eq_true he : decide (l = m) = true)
        clear he
        go_wp2_with fail
        go_ret
        exact ⟨by rw [HE.out]; rfl, hb⟩
  · have q0 : ((l.length : Int) != (m.length : Int)) = true := by simp; omega
    have hne : decide (l = m) = false := decide_eq_false (fun e => hlen (by rw [e]))
    rw [hne]
    subst hv hu
    clear hlen hl hm hA hA2
    go_enter Tryd.func35, Tryd.ntmps35
    go_wp2
    go_ret
    exact ⟨rfl, Below.refl _ _⟩
theorem callFunc_1 (args : Array Value) (W : World) : (callFunc 34 args).run Tryd.prog W = .ok (.enter 34 args) W := enters_of Tryd.func34 (by kernel_rfl) rfl args W
theorem Same1_calls (w : World) (l m : RowT) (v u : Value) (hl : Row w 0 33 3 v l.length (flatC l)) (hm : Row w 0 33 3 u m.length (flatC m)) (h1 : l.length ≤ 1000000) (h2 : m.length ≤ 1000000) :
    Calls Tryd.prog 34 #[v, u] w fun e w' => e = .returned (.bool (decide (l = m))) ∧ Below w.heap.size w w' := by
  have EQ := Lib.hid (EqC_calls w l m v u hl hm h1 h2)
  clear hl hm
  go_enter Tryd.func34, Tryd.ntmps34
  go_wp2_with fail
  refine EQ.out.mono ?_
  rintro e w1 ⟨rfl, b1⟩
  go_wp2_with fail
  go_ret
  exact ⟨rfl, b1⟩
set_option maxHeartbeats 4000000 in
set_option maxRecDepth 100000 in
theorem EqR_calls (w : World) (L M : List RowT) (v u : Value) (vs us : List Value) (hl : FrG w 0 L v vs) (hm : FrG w 0 M u us) (h1 : L.length ≤ 1000000) (h2 : M.length ≤ 1000000) (k1 : ∀ l ∈ L, l.length ≤ 1000000) (k2 : ∀ l ∈ M, l.length ≤ 1000000) :
    Calls Tryd.prog 37 #[v, u, .func (.func 34) #[] #[]] w fun e w' => e = .returned (.bool (decide (L = M))) ∧ Below w.heap.size w w' := by
  obtain ⟨A, c, hv, _, _, hr, hA⟩ := hl.out.rd
  obtain ⟨A2, c2, hu, _, _, hr2, hA2⟩ := hm.out.rd
  have HL := Lib.hid hl
  have HM := Lib.hid hm
  have HR := Lib.hid hr
  have HR2 := Lib.hid hr2
  by_cases hlen : L.length = M.length
  · have q0 : ((L.length : Int) != (M.length : Int)) = false := by simp; omega
    have HLEN := Lib.hid hlen
    subst hv hu
    clear hl hm hA hA2 hr hr2 hlen
    go_enter Tryd.func37, Tryd.ntmps37
    go_wp2
    go_loopw [17] (fun u17 wr => ∃ k : Nat, u17 = n64 k ∧ k ≤ L.length ∧ Hid (L.take k = M.take k) ∧ Below w.heap.size w wr) (fun u17 _ => (L.length - intOf u17).toNat)
    case atStart => exact ⟨0, rfl, Nat.zero_le _, Lib.hid (by simp), Below.refl _ _⟩
    case round =>
      obtain ⟨k, rfl, hk, hp, hb⟩ := hrel
      by_cases hlt : k < L.length
      · have hltm : k < M.length := by have := HLEN.out; omega
        obtain ⟨x, hx⟩ : ∃ x, L[k]? = some x := ⟨_, List.getElem?_eq_getElem hlt⟩
        obtain ⟨y, hy⟩ : ∃ y, M[k]? = some y := ⟨_, List.getElem?_eq_getElem hltm⟩
        obtain ⟨vx, hvx⟩ : ∃ x, vs[k]? = some x := ⟨_, List.getElem?_eq_getElem (by rw [HL.out.len]; exact hlt)⟩
        obtain ⟨vy, hvy⟩ : ∃ y, us[k]? = some y := ⟨_, List.getElem?_eq_getElem (by rw [HM.out.len]; exact hltm)⟩
        obtain ⟨g1, o1, rfl, a1⟩ := HR.out.later hb k vx hvx
        obtain ⟨g2, o2, rfl, b1⟩ := HR2.out.later hb k vy hvy
        have FC := Lib.hid (fun W (hW : Below w.heap.size w W) => Same1_calls W x y vx vy ((HL.out.later hW).row k vx x hvx hx) ((HM.out.later hW).row k vy y hvy hy) (k1 x (List.mem_of_getElem? hx)) (k2 y (List.mem_of_getElem? hy)))
        have r0 : (k : Int) < (L.length : Int) := by omega
        have r1 : (k : Int) < (M.length : Int) := by omega
        have HX := Lib.hid hx
        have HY := Lib.hid hy
        have HB := Lib.hid hb
        have hfun := callFunc_1
        clear hx hy hvx hvy hb HL HM HR HR2 k1 k2
        go_wp2_with fail
        refine (FC.out _ HB.out).mono ?_
        rintro e w7 ⟨rfl, b7⟩
        have HD := Lib.hid (HB.out.trans (b7.mono HB.out.size))
        clear a1 b1 hfun b7
        by_cases he : x = y
        · have hd : decide (x = y) = true := decide_eq_true he
          have hp2 : Hid (L.take (k + 1) = M.take (k + 1)) := Lib.hid (by
            rw [List.take_add_one, List.take_add_one, hp.out, HX.out, HY.out, he])
          clear he
          go_wp2_with fail
          go_roundw
          case rel => exact ⟨k + 1, by go_num, by omega, hp2, HD.out⟩
          case measure => simp [intOf]; omega
        · have hd : decide (x = y) = false := decide_eq_false he
          have hne : decide (L = M) = false := decide_eq_false (fun e => he (by
            have h1 := HX.out
            rw [e, HY.out] at h1
            exact (Option.some.inj h1).symm))
          have HNE := Lib.hid hne
          clear he hne
          go_wp2_with fail
          go_ret
          exact ⟨by rw [HNE.out]; rfl, HD.out⟩
      · obtain rfl : k = L.length := by omega
        have he : L = M := by
          have := hp.out
          rw [List.take_length, HLEN.out, List.take_length] at this
          exact this
        have HE := Lib.hid (decide_eq_true he : decide (L = M) = true)
        clear he
        go_wp2_with fail
        go_ret
        exact ⟨by rw [HE.out]; rfl, hb⟩
  · have q0 : ((L.length : Int) != (M.length : Int)) = true := by simp; omega
    have hne : decide (L = M) = false := decide_eq_false (fun e => hlen (by rw [e]))
    rw [hne]
    subst hv hu
    clear hlen hl hm hA hA2 hr hr2
    go_enter Tryd.func37, Tryd.ntmps37
    go_wp2
    go_ret
    exact ⟨rfl, Below.refl _ _⟩
def eqF (a b : FrameT) : Bool := decide (a.row = b.row) && (decide (a.col = b.col) && decide (a.rows = b.rows))
set_option maxHeartbeats 4000000 in
set_option maxRecDepth 100000 in
theorem Same_calls18 (w : World) (a b : FrameT) (v u : Value) (vs us : List Value) (hl : FrG w 0 a.rows v vs) (hm : FrG w 0 b.rows u us) (h1 : a.rows.length ≤ 1000000) (h2 : b.rows.length ≤ 1000000) (k1 : ∀ l ∈ a.rows, l.length ≤ 1000000) (k2 : ∀ l ∈ b.rows, l.length ≤ 1000000) :
    Calls Tryd.prog 19 #[frV v a, frV u b] w fun e w' => e = .returned (.bool (eqF a b)) ∧ Below w.heap.size w w' := by
  have EQ := Lib.hid (fun W (hW : Below w.heap.size w W) => EqR_calls W a.rows b.rows v u vs us (hl.later hW) (hm.later hW) h1 h2 k1 k2)
  obtain ⟨L, r, c⟩ := a
  obtain ⟨M, r2, c2⟩ := b
  unfold frV eqF
  dsimp only at EQ ⊢
  clear hl hm k1 k2 h1 h2
  have B0 : ∀ x y : Array Value, Below w.heap.size w ((w.alloc (.cells x 28)).alloc (.cells y 28)) := fun x y => ((Below.refl _ w).alloc (Nat.le_refl _) _).alloc (by simp) _
  by_cases hr : r = r2
  · have q1 : ((r : Int) == (r2 : Int)) = true := by simp [hr]
    have e1 := decide_eq_true hr
    by_cases hc : c = c2
    · have q2 : ((c : Int) == (c2 : Int)) = true := by simp [hc]
      have e2 := decide_eq_true hc
      rw [e1, e2, Bool.true_and, Bool.true_and]
      clear hr hc e1 e2
      go_enter Tryd.func19, Tryd.ntmps19
      go_wp2_with fail
      refine (EQ.out _ (B0 _ _)).mono ?_
      rintro e w1 ⟨rfl, b1⟩
      go_wp2_with fail
      go_ret
      exact ⟨rfl, (B0 _ _).trans (b1.mono (B0 _ _).size)⟩
    · have q2 : ((c : Int) == (c2 : Int)) = false := by simp; omega
      have e2 := decide_eq_false hc
      rw [e1, e2, Bool.true_and, Bool.false_and]
      clear hr hc e1 e2 EQ
      go_enter Tryd.func19, Tryd.ntmps19
      go_wp2_with fail
      go_ret
      exact ⟨rfl, B0 _ _⟩
  · have q1 : ((r : Int) == (r2 : Int)) = false := by simp; omega
    have e1 := decide_eq_false hr
    rw [e1, Bool.false_and]
    clear hr e1 EQ
    go_enter Tryd.func19, Tryd.ntmps19
    go_wp2_with fail
    go_ret
    exact ⟨rfl, B0 _ _⟩
end Go.Proofs.YtfgjhfmgacopoaaDoor
