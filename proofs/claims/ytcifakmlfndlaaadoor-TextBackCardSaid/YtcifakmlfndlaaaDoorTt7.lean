import Derived.Test.YtcifakmlfndlaaaDoorTt5
namespace Go.Proofs.YtcifakmlfndlaaaDoor
set_option linter.unusedVariables false
set_option linter.unusedSimpArgs false
open Go.RowKit Go.Shelf
def insOk (l t : Bs) : Bool := decide ((mkS l).length + (pl t).length ≤ 600)
def insT (l t : Bs) (a : Int) : Bs := insS (mkS l) (pl t) (back (mkS l) a)
def insA (l t : Bs) (a : Int) : Nat := on (insT l t a) ((back (mkS l) a : Int) + ((pl t).length : Int))
theorem add_any {a b : ByteArray} {l m : Bs} (ha : a = ⟨l.toArray⟩) (hb : b = ⟨m.toArray⟩) (h : l.length + m.length ≤ 4611686018427387904) (W : World) : (Op.stringOp .add a b).run Tryd.prog W = .ok (.string ⟨(l ++ m).toArray⟩) W := by
  subst ha; subst hb
  rw [run_string_add_sum (P := Tryd.prog) W _ _ (by rw [str_of, str_of]; omega), ByteArray.mk_append_mk]
def insV (l t : Bs) (a : Int) : Value := if insOk l t = true then .tuple #[bufV (insT l t a) (insA l t a), .int .i64 0] else .tuple #[bufV (mkS l) (back (mkS l) a), .int .i64 30]
theorem insV_yes {l t : Bs} {a : Int} (h : insOk l t = true) : insV l t a = .tuple #[bufV (insT l t a) (insA l t a), .int .i64 0] := by unfold insV; rw [if_pos h]
theorem insV_no {l t : Bs} {a : Int} (h : insOk l t = false) : insV l t a = .tuple #[bufV (mkS l) (back (mkS l) a), .int .i64 30] := by unfold insV; rw [if_neg (by rw [h]; simp)]
set_option maxHeartbeats 3200000 in
set_option maxRecDepth 100000 in
/-- Insert. -/
theorem Insert_calls (l : Bs) (hl : l.length ≤ 1000000) (s : ByteArray) (hs : s = ⟨l.toArray⟩) (a : Int) (m : Bs) (hm : m.length ≤ 1000000) (t : ByteArray) (ht : t = ⟨m.toArray⟩) (w : World) (hU : U8 w) :
    Calls Tryd.prog 18 #[.agg #[.string s, .int .i64 a], .string t] w fun e w' =>
      e = .returned (insV l m a) ∧ Below w.heap.size w w' := by
  obtain ⟨W0, hW0⟩ : ∃ W0, W0 = (w.alloc (.cells #[.string s, .int .i64 a] 25)).alloc (.cells #[.string ⟨#[]⟩, .int .i64 0] 25) := ⟨_, rfl⟩
  have hB0 : Below w.heap.size w W0 := by rw [hW0]; exact ((Below.refl _ w).alloc (Nat.le_refl _) _).alloc (by simp) _
  have hb0 : W0.heap[w.heap.size]? = some (.cells #[.string s, .int .i64 a] 25 (0, 0)) := by rw [hW0]; exact (Below.heap_alloc _ _ _ (by simp)).trans (heap_alloc_new w _)
  have hb1 : W0.heap[w.heap.size + 1]? = some (.cells #[.string ⟨#[]⟩, .int .i64 0] 25 (0, 0)) := by
    rw [hW0]
    have := heap_alloc_new (w.alloc (.cells #[.string s, .int .i64 a] 25)) (.cells #[.string ⟨#[]⟩, .int .i64 0] 25)
    rwa [World.size_alloc] at this
  have hz0 : W0.heap.size = w.heap.size + 1 + 1 := by rw [hW0]; simp
  obtain ⟨c0, c1, _, _⟩ := buf_cells hb0
  obtain ⟨bq, hbq⟩ : ∃ s : ByteArray, s = ⟨(mkS l).toArray⟩ := ⟨_, rfl⟩
  obtain ⟨bt, hbt⟩ : ∃ s : ByteArray, s = ⟨(pl m).toArray⟩ := ⟨_, rfl⟩
  obtain ⟨k, hk⟩ : ∃ k, k = back (mkS l) a := ⟨_, rfl⟩
  have hml := mkS_len l
  have hkl := back_le (mkS l) a
  rw [← hk] at hkl
  have hpl := pl_len m
  have zq : bq.size = (mkS l).length := by rw [hbq, str_of]
  have zt : bt.size = (pl m).length := by rw [hbt, str_of]
  have q1 := Make_calls l (by omega) s hs a W0 (hU.later hB0)
  rw [← hk, show bufV (mkS l) k = .agg #[.string bq, .int .i64 (k : Int)] by rw [hbq]] at q1
  have q2 := fun (W : World) (h : U8 W) => Plain_calls m (by omega) t ht W h
  rw [← hbt] at q2
  have Q1 := Lib.hid q1
  have Q2 := Lib.hid q2
  have HB := Lib.hid hb0
  have HB1 := Lib.hid hb1
  have HW := Lib.hid hW0
  have HB0 := Lib.hid hB0
  have HU := Lib.hid hU
  have HQ := Lib.hid hbq
  have HT := Lib.hid hbt
  have HK := Lib.hid hk
  have hq6 : bq.size ≤ 600 := by omega
  have ht6 : bt.size ≤ 4000000 := by omega
  have hk6 : k ≤ 600 := by omega
  have ZQ := Lib.hid zq
  have ZT := Lib.hid zt
  have hkq : (k : Int) ≤ (bq.size : Int) := by omega
  have hk0 : (0 : Int) ≤ (k : Int) := by omega
  clear hs ht hU hbq hbt hk q1 q2 hb0 hb1 hW0 hB0 hml hkl hpl zq zt hl hm
  go_enter Tryd.func18, Tryd.ntmps18
  go_wp2_with fail
  rw [← HW.out]
  refine Q1.out.mono ?_
  rintro e w1 ⟨rfl, hb1⟩
  have h1 := (hb1.block w.heap.size (by omega)).trans HB.out
  have h1' := (hb1.block (w.heap.size + 1) (by omega)).trans HB1.out
  obtain ⟨d0, d1, f0, f1⟩ := buf_cells h1
  have H1 := Lib.hid h1
  have H1' := Lib.hid h1'
  have B1 := HB0.out.trans (hb1.mono (by omega))
  clear h1 h1' c0 c1
  go_wp2_with fail
  obtain ⟨w2, e2, h2, d0, d1, b2⟩ := buf_set H1.out (.string bq) (.int .i64 (k : Int))
  rw [e2]
  have B2 : Below w.heap.size w w2 := b2 _ _ (Nat.le_refl _) B1
  have h2' : w2.heap[w.heap.size + 1]? = some (.cells #[.string ⟨#[]⟩, .int .i64 0] 25 (0, 0)) := by
    rw [← e2, Below.heap_setCell _ _ _ _ (by dsimp only; omega), Below.heap_setCell _ _ _ _ (by dsimp only; omega)]
    exact H1'.out
  have H2 := Lib.hid h2
  have H2' := Lib.hid h2'
  have hz2 : w.heap.size + 1 < w2.heap.size := lt_of_heap h2'
  clear e2 h2 h2' b2
  refine (Q2.out w2 (HU.out.later B2)).mono ?_
  rintro e w3 ⟨rfl, hb3⟩
  have h3 := (hb3.block w.heap.size (by omega)).trans H2.out
  have h3' := (hb3.block (w.heap.size + 1) (by omega)).trans H2'.out
  obtain ⟨c0, c1, _, _⟩ := buf_cells h3
  obtain ⟨r0, r1, g0, g1⟩ := buf_cells h3'
  have B3 := B2.trans (hb3.mono B2.size)
  have H3' := Lib.hid h3'
  have hz3 := hb3.size
  clear h3 h3' d0 d1
  by_cases hbig : 600 < bq.size + bt.size
  · have hd : decide ((600 : Int) < (bq.size : Int) + (bt.size : Int)) = true := by simp; omega
    have hok : insOk l m = false := by unfold insOk; have := ZQ.out; have := ZT.out; simp; omega
    have HOK := Lib.hid hok
    clear hok
    go_wp2
    obtain ⟨W4, e4, _, s0, s1, b4⟩ := buf_set H3'.out (.string bq) (.int .i64 (k : Int))
    rw [e4]
    exact bodyPost_ret (v := .tuple #[.agg #[.string bq, .int .i64 (k : Int)], .int .i64 30]) (by simp [results, Tryd.results18, go_sem, s0, s1]) rfl ⟨by rw [insV_no HOK.out, HQ.out, HK.out], b4 _ _ (by omega) B3⟩
  · have hd : decide ((600 : Int) < (bq.size : Int) + (bt.size : Int)) = false := by simp; omega
    have hok : insOk l m = true := by unfold insOk; have := ZQ.out; have := ZT.out; simp; omega
    have HOK := Lib.hid hok
    obtain ⟨x1, hx1⟩ : ∃ x : ByteArray, x = bq.extract 0 k := ⟨_, rfl⟩
    obtain ⟨x2, hx2⟩ : ∃ x : ByteArray, x = bq.extract k bq.size := ⟨_, rfl⟩
    have y1 : x1 = ⟨((mkS l).take k).toArray⟩ := by rw [hx1, HQ.out, extract_eq]; simp
    have y2 : x2 = ⟨((mkS l).drop k).toArray⟩ := by rw [hx2, ZQ.out, HQ.out, extract_eq, List.take_length]
    obtain ⟨x3, hx3⟩ : ∃ x : ByteArray, x = ⟨((mkS l).take k ++ pl m).toArray⟩ := ⟨_, rfl⟩
    obtain ⟨x4, hx4⟩ : ∃ x : ByteArray, x = ⟨(insT l m a).toArray⟩ := ⟨_, rfl⟩
    have l1 : (mkS l).length ≤ 600 := mkS_len l
    have l2 : (pl m).length ≤ 600 := by have := ZT.out; omega
    have a1 := fun W => add_any y1 HT.out (by rw [List.length_take]; omega) W
    rw [← hx3] at a1
    have a2 := fun W => add_any hx3 y2 (by rw [List.length_append, List.length_take, List.length_drop]; omega) W
    rw [show (mkS l).take k ++ pl m ++ (mkS l).drop k = insT l m a by unfold insT insS; rw [HK.out], ← hx4] at a2
    have il : (insT l m a).length ≤ 600 := by unfold insT; rw [ins_len]; have := ZQ.out; have := ZT.out; omega
    have q5 := fun (W : World) => on_calls (insT l m a) (by omega) x4 hx4 ((k : Int) + (bt.size : Int)) W
    rw [show on (insT l m a) ((k : Int) + (bt.size : Int)) = insA l m a by unfold insA; rw [HK.out, ZT.out]] at q5
    have Q5 := Lib.hid q5
    have HX4 := Lib.hid hx4
    clear hok y1 y2 hx3 hx4 q5 l1 l2 il
    subst hx1 hx2
    go_wp2_with fail
    go_quiet (fail)
    rename_i nq
    have B4 : Below w.heap.size w (w3.drewN nq) := ⟨B3.os, B3.tape, B3.output, B3.size, B3.block⟩
    go_wp2_with fail
    refine (Q5.out _).mono ?_
    rintro e w5 ⟨rfl, hb5⟩
    have h5' : w5.heap[w.heap.size + 1]? = some (.cells #[.string ⟨#[]⟩, .int .i64 0] 25 (0, 0)) := (hb5.block (w.heap.size + 1) (lt_of_heap H3'.out)).trans H3'.out
    obtain ⟨s0, s1, g2, g3⟩ := buf_cells h5'
    have B5 := B4.trans (hb5.mono B4.size)
    have H5' := Lib.hid h5'
    clear h5'
    go_wp2
    obtain ⟨W4, e4, _, v0, v1, b4⟩ := buf_set H5'.out (.string x4) (.int .i64 (insA l m a : Int))
    rw [e4]
    exact bodyPost_ret (v := .tuple #[.agg #[.string x4, .int .i64 (insA l m a : Int)], .int .i64 0]) (by simp [results, Tryd.results18, go_sem, v0, v1]) rfl ⟨by rw [insV_yes HOK.out, HX4.out], b4 _ _ (by omega) B5⟩
end Go.Proofs.YtcifakmlfndlaaaDoor
