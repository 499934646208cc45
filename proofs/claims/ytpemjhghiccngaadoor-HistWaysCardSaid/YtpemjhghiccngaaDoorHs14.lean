import Derived.Test.YtpemjhghiccngaaDoorHs13
import Derived.Deep.RegionHeld3
namespace Go.Proofs.YtpemjhghiccngaaDoor
set_option linter.unusedVariables false
set_option linter.unusedSimpArgs false
open Go.RowKit Go.Shelf
/-! The document's Add. -/
def addL1 (l : List EntT) (e : EntT) : List EntT := if 6 < ((l ++ [e]).filter fun x => decide (x.c = e.c)).length then (woF (l ++ [e]) e.c 1).1 else l ++ [e]
def lastC (l : List EntT) : Bs := (cmdsE l).getLastD []
def addL (l : List EntT) (e : EntT) : List EntT := if rightE e = true then (if (cmdsE (addL1 l e)).length ≤ 40 then addL1 l e else (woF (addL1 l e) (lastC (addL1 l e)) (addL1 l e).length).1) else l
def goneL (l : List EntT) (e : EntT) : List Bs := if rightE e = true then (if (cmdsE (addL1 l e)).length ≤ 40 then [] else [lastC (addL1 l e)]) else []
theorem addL1_len (l : List EntT) (e : EntT) : (addL1 l e).length ≤ l.length + 1 := by
  unfold addL1
  split
  · have := (woF_le (l ++ [e]) e.c 1).1
    simpa using this
  · simp
theorem addL_len (l : List EntT) (e : EntT) : (addL l e).length ≤ l.length + 1 := by
  have h := addL1_len l e
  unfold addL
  split
  · split
    · exact h
    · exact Nat.le_trans (woF_le _ _ _).1 h
  · omega
/-- A row of the document's entries, in a block from B on. -/
abbrev RowR (w : World) (B : Nat) (v : Value) (l : List EntT) : Prop := Row w B 28 3 v l.length (flatE l)
def AddPost (w : World) (B : Nat) (l : List EntT) (e : EntT) (x : Ending) (w' : World) : Prop :=
  ∃ A1 c1 v2, x = .returned (.tuple #[.slice A1 (addL l e).length c1, v2, .bool (rightE e)]) ∧ RowR w' B (.slice A1 (addL l e).length c1) (addL l e) ∧ Row w' w.heap.size 9 1 v2 (goneL l e).length ((goneL l e).map str) ∧ Below w.heap.size w w'
set_option maxRecDepth 100000 in
set_option maxHeartbeats 6400000 in
theorem rAdd_calls (w : World) (hU : U8 w) (B : Nat) (A : Option Addr) (c : Nat) (l : List EntT) (hr : RowR w B (.slice A l.length c) l) (hB : B ≤ w.heap.size) (hl : l.length ≤ 100000) (e : EntT) (hd : e.d.length ≤ 1000000) (hc : e.c.length ≤ 1000000) :
    Calls Tryd.prog 13 #[.slice A l.length c, entV e] w (AddPost w B l e) := by
  obtain ⟨sd, hsd⟩ : ∃ s : ByteArray, s = ⟨e.d.toArray⟩ := ⟨_, rfl⟩
  obtain ⟨sc, hsc⟩ : ∃ s : ByteArray, s = ⟨e.c.toArray⟩ := ⟨_, rfl⟩
  have ev : entV e = .agg #[.int .i64 e.t, .string sd, .string sc] := by unfold entV; rw [hsd, hsc]
  have q1 := fun (W : World) (h : U8 W) => RRight_calls e hd hc W h
  rw [ev] at q1 ⊢
  obtain ⟨t, ht⟩ : ∃ t, t = e.t := ⟨_, rfl⟩
  rw [← ht] at q1 ⊢
  obtain ⟨W0, hW0⟩ : ∃ W0, w.alloc (.cells #[.int .i64 t, .string sd, .string sc] 28) = W0 := ⟨_, rfl⟩
  have hB0 : Below w.heap.size w W0 := by rw [← hW0]; exact (Below.refl _ w).alloc (Nat.le_refl _) _
  have hb0 : W0.heap[w.heap.size]? = some (.cells #[.int .i64 t, .string sd, .string sc] 28 (0, 0)) := by rw [← hW0]; exact heap_alloc_new w _
  obtain ⟨c0, c1, c2⟩ := ent_cells hb0
  obtain ⟨_, _, hcc, _, _, hrd, _⟩ := hr.rd
  cases hcc
  have hec : entCells e = [.int .i64 t, .string sd, .string sc] := by rw [ht, hsd, hsc]; rfl
  have HEC := Lib.hid hec
  have HRW := Lib.hid hr
  have HRD := Lib.hid hrd
  have HBW := Lib.hid hB
  have HB := Lib.hid hb0
  have HW := Lib.hid hW0
  have HB0 := Lib.hid hB0
  have Q1 := Lib.hid q1
  have HU := Lib.hid hU
  have HSC := Lib.hid hsc
  cases hri : rightE e with
  | false =>
    rw [hri] at Q1
    have hfin : addL l e = l ∧ goneL l e = [] := by unfold addL goneL; rw [hri]; simp
    have HF := Lib.hid hfin
    have HRI := Lib.hid hri
    clear q1 hr hrd hB hb0 hB0 hW0 hU hsd hsc ht ev hd hc hec hri hfin
    go_enter Tryd.func13, Tryd.ntmps13
    go_wp2_with fail
    rw [HW.out]
    refine (Q1.out W0 (HU.out.later HB0.out)).mono ?_
    rintro x w1 ⟨rfl, b1⟩
    go_wp2
    go_ret3
    have h1 := HB0.out.trans (b1.mono HB0.out.size)
    unfold AddPost
    rw [HF.out.1, HF.out.2, HRI.out]
    exact ⟨_, _, _, rfl, HRW.out.below h1 (Nat.le_refl _), Row.nil _ _ _ _, h1⟩
  | true =>
    rw [hri] at Q1
    have HRI := Lib.hid hri
    clear q1 hr hrd hB hb0 hB0 hW0 hU hsd hsc ht ev hd hc hec hri
    go_enter Tryd.func13, Tryd.ntmps13
    go_wp2_with fail
    rw [HW.out]
    refine (Q1.out W0 (HU.out.later HB0.out)).mono ?_
    rintro x w3 ⟨rfl, b3⟩
    have B3 := HB0.out.trans (b3.mono HB0.out.size)
    have hb3 := keepB HB.out b3
    clear c0 c1 c2
    obtain ⟨c0, c1, c2⟩ := ent_cells hb3
    have HB3 := Lib.hid hb3
    have l3 := lt_of_heap hb3
    have HRL : Hid (∀ W', Below w3.heap.size w3 W' → Rd W' A (flatE l)) := Lib.hid fun W' h => (HRD.out.later B3).later h
    have HLX : Hid ((flatE l).length = l.length * 3) := Lib.hid (flatE_len l)
    have HO1 : Hid (∀ u ∈ flatE l, u.oneCell' = true) := Lib.hid (flatE_one l)
    have HOY : Hid (∀ u ∈ ([.int .i64 t, .string sd, .string sc] : List Value), u.oneCell' = true) := Lib.hid (by rw [← HEC.out]; exact entC_one e)
    have HS : Hid (∀ W', Below w3.heap.size w3 W' → Below w3.heap.size w3 W' ∧ W'.cell? ⟨w.heap.size, 0, none⟩ = some (.int .i64 t) ∧ W'.cell? ⟨w.heap.size, 1, none⟩ = some (.string sd) ∧ W'.cell? ⟨w.heap.size, 2, none⟩ = some (.string sc)) := Lib.hid fun W' h => ⟨h, ent_cells (keepB HB3.out h)⟩
    clear hb3 b3
    go_wp2_with fail
    go_region_held3 (fun w' => Below w3.heap.size w3 w' ∧ w'.cell? ⟨w.heap.size, 0, none⟩ = some (.int .i64 t) ∧ w'.cell? ⟨w.heap.size, 1, none⟩ = some (.string sd) ∧ w'.cell? ⟨w.heap.size, 2, none⟩ = some (.string sc)) ((refine HS.out _ ?_; (first | exact C8 | exact C7.alloc C7.size _ | exact C7 | go_grown))) (first
      | (refine step_append_row _ (by rfl) _ _ _ (by rfl) w3.heap.size 28 3 40 _ Tryd.underlying22 Tryd.info_rent rfl (by decide) (.slice (some ⟨w3.heap.size, 0, none⟩) 0 0) 0 [] (by rfl) (Row.new _ #[] _ _ _ _ (by simp) (by simp [maxLen]) (by simp)) A l.length _ (flatE l) (by rfl) HLX.out (HRL.out _ (by go_grown)) HO1.out (by omega) (by simp only [maxLen]; omega) (by simp <;> omega) ?_; intro A7 c7 w7 hrow7 hg7 hb7; rw [Nat.zero_add, List.nil_append] at hrow7; have C7 : Below w3.heap.size w3 w7 := Below.grown (by go_grown) hg7 (by simp <;> omega) (fun j e => by simp [Value.ownBlock] at e; omega))
      | (refine step_append_row _ (by rfl) _ _ _ (by rfl) w3.heap.size 28 3 40 _ Tryd.underlying22 Tryd.info_rent rfl (by decide) (.slice (some ⟨w3.heap.size, 0, none⟩) 0 0) 0 [] (by rfl) (((Row.new w3 #[] w3.heap.size 28 3 0 (Nat.le_refl _) (by simp [maxLen]) (by simp)).alloc _).at_ (fun _ _ => rfl)) A l.length _ (flatE l) (by rfl) HLX.out (HRL.out _ (by go_grown)) HO1.out (by omega) (by simp only [maxLen]; omega) (by simp; omega) ?_; intro A7 c7 w7 hrow7 hg7 hb7; have C7 : Below w3.heap.size w3 w7 := Below.grown (by go_grown) hg7 (by simp <;> omega) (fun j e => by simp [Value.ownBlock] at e; omega); have hbj7 : Rd w7 (some ⟨w3.heap.size + 1, 0, none⟩) [.int .i64 t, .string sd, .string sc] := rdTwo hg7 rfl)
      | (refine step_append_row _ (by rfl) _ _ _ (by rfl) w3.heap.size 28 3 40 _ Tryd.underlying22 Tryd.info_rent rfl (by decide) (.slice A7 (0 + l.length) c7) _ _ (by rfl) hrow7 _ 1 1 [.int .i64 t, .string sd, .string sc] (by rfl) rfl hbj7 HOY.out (by omega) (by simp only [maxLen]; omega) C7.size ?_; intro A8 c8 w8 hrow8 hg8 hb8; have C8 : Below w3.heap.size w3 w8 := Below.grown C7 hg8 C7.size (fun j e => (hrow7.lt _ e).1))
      | (refine step_append_row _ (by rfl) _ _ _ (by rfl) w3.heap.size 28 3 40 _ Tryd.underlying22 Tryd.info_rent rfl (by decide) (.slice (some ⟨w3.heap.size + 1, 0, none⟩) 0 0) 0 [] (by rfl) (rowTwo _ _ _ _) A l.length _ (flatE l) (by rfl) HLX.out (HRL.out _ (by go_grown)) HO1.out (by omega) (by simp only [maxLen]; omega) (by simp; omega) ?_; intro A7 c7 w7 hrow7 hg7 hb7; have C7 : Below w3.heap.size w3 w7 := Below.grown (by go_grown) hg7 (by simp <;> omega) (fun j e => by simp [Value.ownBlock] at e; omega); have hbj8 : Rd w7 (some ⟨w3.heap.size, 0, none⟩) [.int .i64 t, .string sd, .string sc] := rdTwo' hg7 rfl)
      | (refine step_append_row _ (by rfl) _ _ _ (by rfl) w3.heap.size 28 3 40 _ Tryd.underlying22 Tryd.info_rent rfl (by decide) (.slice A7 (0 + l.length) c7) _ _ (by rfl) hrow7 _ 1 1 [.int .i64 t, .string sd, .string sc] (by rfl) rfl hbj8 HOY.out (by omega) (by simp only [maxLen]; omega) C7.size ?_; intro A8 c8 w8 hrow8 hg8 hb8; have C8 : Below w3.heap.size w3 w8 := Below.grown C7 hg8 C7.size (fun j e => (hrow7.lt _ e).1))
      | (refine step_append_row _ (by rfl) _ _ _ (by rfl) w3.heap.size 28 3 40 _ Tryd.underlying22 Tryd.info_rent rfl (by decide) (.slice A7 l.length c7) _ _ (by rfl) (hrow7.alloc _) _ 1 1 [.int .i64 t, .string sd, .string sc] (by rfl) rfl (rdNew _ _ _) HOY.out (by omega) (by simp only [maxLen]; omega) (by have := C7.size; simp; omega) ?_; intro A8 c8 w8 hrow8 hg8 hb8; have C8 : Below w3.heap.size w3 w8 := Below.grown (C7.alloc C7.size _) hg8 (by have := C7.size; simp; omega) (fun j e => (hrow7.lt _ e).1)))
    all_goals
      (try simp only [Nat.zero_add, List.nil_append] at hrow8)
      have D8 := B3.trans (C8.mono B3.size)
      have hL : (l ++ [e]).length = l.length + 1 := by simp
      have hrow9 : Row w8 B 28 3 (.slice A8 (l.length + 1) c8) (l.length + 1) (flatE (l ++ [e])) := by
        have : flatE (l ++ [e]) = flatE l ++ [.int .i64 t, .string sd, .string sc] := by rw [flatE_app, ← HEC.out]; simp [flatE]
        rw [this]
        exact hrow8.mono (Nat.le_trans HBW.out B3.size)
      obtain ⟨L, hLL⟩ : ∃ L, L = l ++ [e] := ⟨_, rfl⟩
      rw [← hLL] at hrow9 hL
      obtain ⟨_, _, hcc9, _, _, hrd9, _⟩ := hrow9.rd
      cases hcc9
      have HR9 := Lib.hid hrow9
      have HD9 := Lib.hid hrd9
      have HLL := Lib.hid hLL
      have HL := Lib.hid hL
      obtain ⟨x0, x1, x2⟩ := ent_cells (keepB HB3.out C8)
      have HBE := Lib.hid (keepB HB3.out C8)
      have q2 := rUses_calls w8 A8 c8 L hrd9 (by omega) e.c sc HSC.out
      rw [hL] at q2
      have Q2 := Lib.hid q2
      have HD8 := Lib.hid D8
      clear hrow8 hrow9 hrd9 hLL q2 D8 hg7 hb7 hrow7 hg8 hb8 C8 C7 c0 c1 c2 hL
      (try clear hbj7)
      (try clear hbj8)
      go_wp2_with fail
      refine Q2.out.mono ?_
      rintro x wa ⟨Aa, ca, rfl, _, ba⟩
      have DA := HD8.out.trans (ba.mono HD8.out.size)
      have HBA := Lib.hid (keepB HBE.out ba)
      have HRA := Lib.hid (HR9.out.below ba (Nat.le_refl _))
      clear ba x0 x1 x2
      by_cases h6 : 6 < (L.filter fun x => decide (x.c = e.c)).length
      · have i1 : decide ((6 : Int) < ((L.filter fun x => decide (x.c = e.c)).length : Int)) = true := decide_eq_true (by omega)
        have i2 : decide (6 < (L.filter fun x => decide (x.c = e.c)).length) = true := decide_eq_true h6
        have h1 : addL1 l e = (woF L e.c 1).1 := by unfold addL1; rw [← HLL.out, if_pos h6]
        have HA1 := Lib.hid h1
        obtain ⟨_, _, hcc, _, _, hrda, _⟩ := HRA.out.rd
        cases hcc
        have q3 := rWithout_calls wa A8 c8 L hrda (by have := HL.out; omega) e.c sc HSC.out 1 (by omega)
        rw [HL.out] at q3
        have Q3 := Lib.hid q3
        obtain ⟨x0, x1, x2⟩ := ent_cells HBA.out
        clear q3 hrda h6 h1
        go_wp2_with fail
        refine Q3.out.mono ?_
        rintro x wb ⟨A2, c2, rfl, hrb, bb⟩
        have DB := DA.trans (bb.mono DA.size)
        have hl2 := (woF_le L e.c 1).1
        obtain ⟨L2, hL2⟩ : ∃ L2, L2 = (woF L e.c 1).1 := ⟨_, rfl⟩
        rw [← hL2] at hrb hl2 HA1
        rw [← hL2]
        have hrb' : RowR wb B (.slice A2 L2.length c2) L2 := hrb.mono (Nat.le_trans HBW.out DA.size)
        have hl3 : L2.length ≤ 100001 := by have := HL.out; omega
        have HRB := Lib.hid hrb'
        clear hrb hrb' hl2 hL2 bb i1 i2 x0 x1 x2
        obtain ⟨_, _, hcc, _, _, hrdb, _⟩ := HRB.out.rd
        cases hcc
        have q4 := rCmds_calls wb A2 c2 L2 hrdb (by omega)
        have Q4 := Lib.hid q4
        clear q4 hrdb
        go_wp2_with fail
        refine Q4.out.mono ?_
        rintro x wc ⟨A3, c3, rfl, hrc, bc⟩
        have DC := DB.trans (bc.mono DB.size)
        have HRC := Lib.hid hrc
        have HRBC := Lib.hid (HRB.out.below bc (Nat.le_refl _))
        have hbc := bc.size
        have hDB := DB.size
        clear hrc bc
        by_cases h40 : (cmdsE L2).length ≤ 40
        · have j1 : decide (((cmdsE L2).length : Int) ≤ 40) = true := decide_eq_true (by omega)
          have j2 : decide ((cmdsE L2).length ≤ 40) = true := decide_eq_true h40
          have hf : addL l e = L2 ∧ goneL l e = [] := by
            unfold addL goneL
            rw [HRI.out, if_pos rfl, if_pos rfl, HA1.out, if_pos h40, if_pos h40]
            exact ⟨rfl, rfl⟩
          have HF := Lib.hid hf
          clear hf h40
          go_wp2
          go_ret3
          unfold AddPost
          rw [HF.out.1, HF.out.2, HRI.out]
          exact ⟨_, _, _, rfl, HRBC.out, Row.nil _ _ _ _, DC⟩
        · obtain ⟨m, hm⟩ : ∃ m, (cmdsE L2).length = m + 1 := ⟨(cmdsE L2).length - 1, by omega⟩
          have hlast : (cmdsE L2)[m]? = some (lastC L2) := by
            unfold lastC
            rw [List.getLastD_eq_getLast?, List.getLast?_eq_getElem?, hm, Nat.add_sub_cancel, List.getElem?_eq_getElem (by omega)]; rfl
          rw [hm] at HRC ⊢
          have j3 : decide ((m : Int) + 1 ≤ 40) = false := decide_eq_false (by omega)
          have j4 : decide (m + 1 ≤ 40) = false := decide_eq_false (by omega)
          obtain ⟨sl, hsl⟩ : ∃ s : ByteArray, s = ⟨(lastC L2).toArray⟩ := ⟨_, rfl⟩
          obtain ⟨_, _, hcc, _, _, hrdc, _⟩ := HRC.out.rd
          cases hcc
          obtain ⟨g3, o3, rfl, y0⟩ := hrdc m (str (lastC L2)) (by rw [List.getElem?_map, hlast]; rfl)
          rw [lit_of hsl] at y0
          have hf : addL l e = (woF L2 (lastC L2) L2.length).1 ∧ goneL l e = [lastC L2] := by
            unfold addL goneL
            rw [HRI.out, if_pos rfl, if_pos rfl, HA1.out, if_neg h40, if_neg h40]
            exact ⟨rfl, rfl⟩
          have HF := Lib.hid hf
          have k0 : (m : Int) < ((m + 1 : Nat) : Int) := by omega
          have k1 : (0 : Int) ≤ (m : Int) := by omega
          have k2 : (m : Int) ≤ 100001 := by have := cmdsE_len L2; omega
          obtain ⟨_, _, hcc, _, _, hrde, _⟩ := HRBC.out.rd
          cases hcc
          have q5 := rWithout_calls wc A2 c2 L2 hrde (by omega) (lastC L2) sl hsl L2.length (by omega)
          have Q5 := Lib.hid q5
          have HSL := Lib.hid hsl
          clear hf h40 hlast hrdc hsl q5 hrde hm
          go_wp2_with fail
          refine Q5.out.mono ?_
          rintro x wd ⟨A4, c4, rfl, hrd4, bd⟩
          have DD := DC.trans (bd.mono DC.size)
          have HR4 := Lib.hid hrd4
          have HBD := Lib.hid bd
          clear hrd4 bd
          go_wp2
          go_ret3
          unfold AddPost
          rw [HF.out.1, HF.out.2, HRI.out]
          have hnew := Row.new wd #[.string sl] w.heap.size 9 1 1 DD.size (by simp [maxLen]) rfl
          rw [show (#[.string sl] : Array Value).toList = [lastC L2].map str by rw [HSL.out]; rfl] at hnew
          exact ⟨_, _, _, rfl, ((HR4.out.mono (Nat.le_trans HBW.out DC.size)).alloc _), hnew, DD.alloc DD.size _⟩
      · have i1 : decide ((6 : Int) < ((L.filter fun x => decide (x.c = e.c)).length : Int)) = false := decide_eq_false (by omega)
        have i2 : decide (6 < (L.filter fun x => decide (x.c = e.c)).length) = false := decide_eq_false h6
        have HA1 : Hid (addL1 l e = L) := Lib.hid (by unfold addL1; rw [← HLL.out, if_neg h6])
        obtain ⟨wb, hwb⟩ : ∃ W, W = wa := ⟨_, rfl⟩
        obtain ⟨L2, hL2⟩ : ∃ L2, L2 = L := ⟨_, rfl⟩
        have hrb' : RowR wb B (.slice A8 L2.length c8) L2 := by rw [hwb, hL2]; have := HRA.out; rw [← HL.out] at this; exact this
        have hl3 : L2.length ≤ 100001 := by rw [hL2]; have := HL.out; omega
        have DB : Below w.heap.size w wb := by rw [hwb]; exact DA
        rw [← HL.out, ← hL2, ← hwb]
        rw [← hL2] at HA1
        have HRB := Lib.hid hrb'
        obtain ⟨A2, hA2⟩ : ∃ A2, A2 = A8 := ⟨_, rfl⟩
        obtain ⟨c2, hc2⟩ : ∃ c2, c2 = c8 := ⟨_, rfl⟩
        rw [← hA2, ← hc2] at HRB ⊢
        have i3 : decide ((6 : Int) < ((L2.filter fun x => decide (x.c = e.c)).length : Int)) = false := by rw [hL2]; exact i1
        have i4 : decide (6 < (L2.filter fun x => decide (x.c = e.c)).length) = false := by rw [hL2]; exact i2
        clear hrb' h6 hA2 hc2 hwb hL2
        obtain ⟨_, _, hcc, _, _, hrdb, _⟩ := HRB.out.rd
        cases hcc
        have q4 := rCmds_calls wb A2 c2 L2 hrdb (by omega)
        have Q4 := Lib.hid q4
        clear q4 hrdb
        go_wp2_with fail
        refine Q4.out.mono ?_
        rintro x wc ⟨A3, c3, rfl, hrc, bc⟩
        have DC := DB.trans (bc.mono DB.size)
        have HRC := Lib.hid hrc
        have HRBC := Lib.hid (HRB.out.below bc (Nat.le_refl _))
        have hbc := bc.size
        have hDB := DB.size
        clear hrc bc
        by_cases h40 : (cmdsE L2).length ≤ 40
        · have j1 : decide (((cmdsE L2).length : Int) ≤ 40) = true := decide_eq_true (by omega)
          have j2 : decide ((cmdsE L2).length ≤ 40) = true := decide_eq_true h40
          have hf : addL l e = L2 ∧ goneL l e = [] := by
            unfold addL goneL
            rw [HRI.out, if_pos rfl, if_pos rfl, HA1.out, if_pos h40, if_pos h40]
            exact ⟨rfl, rfl⟩
          have HF := Lib.hid hf
          clear hf h40
          go_wp2
          go_ret3
          unfold AddPost
          rw [HF.out.1, HF.out.2, HRI.out]
          exact ⟨_, _, _, rfl, HRBC.out, Row.nil _ _ _ _, DC⟩
        · obtain ⟨m, hm⟩ : ∃ m, (cmdsE L2).length = m + 1 := ⟨(cmdsE L2).length - 1, by omega⟩
          have hlast : (cmdsE L2)[m]? = some (lastC L2) := by
            unfold lastC
            rw [List.getLastD_eq_getLast?, List.getLast?_eq_getElem?, hm, Nat.add_sub_cancel, List.getElem?_eq_getElem (by omega)]; rfl
          rw [hm] at HRC ⊢
          have j3 : decide ((m : Int) + 1 ≤ 40) = false := decide_eq_false (by omega)
          have j4 : decide (m + 1 ≤ 40) = false := decide_eq_false (by omega)
          obtain ⟨sl, hsl⟩ : ∃ s : ByteArray, s = ⟨(lastC L2).toArray⟩ := ⟨_, rfl⟩
          obtain ⟨_, _, hcc, _, _, hrdc, _⟩ := HRC.out.rd
          cases hcc
          obtain ⟨g3, o3, rfl, y0⟩ := hrdc m (str (lastC L2)) (by rw [List.getElem?_map, hlast]; rfl)
          rw [lit_of hsl] at y0
          have hf : addL l e = (woF L2 (lastC L2) L2.length).1 ∧ goneL l e = [lastC L2] := by
            unfold addL goneL
            rw [HRI.out, if_pos rfl, if_pos rfl, HA1.out, if_neg h40, if_neg h40]
            exact ⟨rfl, rfl⟩
          have HF := Lib.hid hf
          have k0 : (m : Int) < ((m + 1 : Nat) : Int) := by omega
          have k1 : (0 : Int) ≤ (m : Int) := by omega
          have k2 : (m : Int) ≤ 100001 := by have := cmdsE_len L2; omega
          obtain ⟨_, _, hcc, _, _, hrde, _⟩ := HRBC.out.rd
          cases hcc
          have q5 := rWithout_calls wc A2 c2 L2 hrde (by omega) (lastC L2) sl hsl L2.length (by omega)
          have Q5 := Lib.hid q5
          have HSL := Lib.hid hsl
          clear hf h40 hlast hrdc hsl q5 hrde hm
          go_wp2_with fail
          refine Q5.out.mono ?_
          rintro x wd ⟨A4, c4, rfl, hrd4, bd⟩
          have DD := DC.trans (bd.mono DC.size)
          have HR4 := Lib.hid hrd4
          have HBD := Lib.hid bd
          clear hrd4 bd
          go_wp2
          go_ret3
          unfold AddPost
          rw [HF.out.1, HF.out.2, HRI.out]
          have hnew := Row.new wd #[.string sl] w.heap.size 9 1 1 DD.size (by simp [maxLen]) rfl
          rw [show (#[.string sl] : Array Value).toList = [lastC L2].map str by rw [HSL.out]; rfl] at hnew
          exact ⟨_, _, _, rfl, ((HR4.out.mono (Nat.le_trans HBW.out DC.size)).alloc _), hnew, DD.alloc DD.size _⟩
end Go.Proofs.YtpemjhghiccngaaDoor
