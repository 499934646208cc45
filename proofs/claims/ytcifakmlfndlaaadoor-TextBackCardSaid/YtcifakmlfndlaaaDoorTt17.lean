import Derived.Test.YtcifakmlfndlaaaDoorTt12
import Derived.Test.YtcifakmlfndlaaaDoorTt10
import Derived.Laws.StructEq
import Derived.Test.YtcifakmlfndlaaaDoorTt6b
import Derived.Test.YtcifakmlfndlaaaDoorTt9
namespace Go.Proofs.YtcifakmlfndlaaaDoor
set_option linter.unusedVariables false
set_option linter.unusedSimpArgs false
open Go.RowKit Go.Shelf
/-! What alive reckons. -/
def sgF' : Nat → Bs → List Bs
  | 0, _ => []
  | n + 1, l => if l = [] then [] else l.take (dec l).2 :: sgF' n (l.drop (dec l).2)
theorem sgF'_eq : ∀ (n : Nat) (l : Bs), l.length ≤ n → sgF' n l = sg l := by
  intro n
  induction n with
  | zero => intro l h; have : l = [] := List.eq_nil_of_length_eq_zero (by omega); subst this; rw [sg_nil]; rfl
  | succ n ih =>
    intro l h
    by_cases h0 : l = []
    · subst h0; rw [sg_nil]; rfl
    · have := dec_pos l
      rw [sg_cons h0, sgF', if_neg h0, ih _ (by simp; omega)]
theorem cuts_F (l : Bs) : cuts l = cutP (sgF' l.length l) := by unfold cuts; rw [← sgF'_eq _ l (Nat.le_refl _)]
set_option maxRecDepth 100000 in
theorem al_m1 : mkS [97, 98] = [97, 98] := mkS_id (by unfold Pl; decide) (by decide)
set_option maxRecDepth 100000 in
theorem al_m2 : mkS [97, 120, 98] = [97, 120, 98] := mkS_id (by unfold Pl; decide) (by decide)
set_option maxRecDepth 100000 in
theorem al_m3 : mkS [101, 204, 129] = [101, 204, 129] := mkS_id (by unfold Pl; decide) (by decide)
set_option maxRecDepth 100000 in
theorem al_m4 : mkS [101, 204, 129, 120] = [101, 204, 129, 120] := mkS_id (by unfold Pl; decide) (by decide)
set_option maxRecDepth 100000 in
theorem al_m5 : mkS [97, 98, 32, 99, 100] = [97, 98, 32, 99, 100] := mkS_id (by unfold Pl; decide) (by decide)
set_option maxRecDepth 100000 in
theorem al_m6 : mkS [32, 97, 98, 32, 99, 100] = [32, 97, 98, 32, 99, 100] := mkS_id (by unfold Pl; decide) (by decide)
def vBuf (l : Bs) (a : Int) : Value := .agg #[.string ⟨l.toArray⟩, .int .i64 a]
set_option maxRecDepth 100000 in
theorem al_1 : insV [97, 98] [120] 1 = .tuple #[vBuf [97, 120, 98] 2, .int .i64 0] := by
  unfold insV insOk insT insA insS on back
  rw [al_m1]
  simp only [cuts_F]
  kernel_rfl
set_option maxRecDepth 100000 in
theorem al_2 : cutV [97, 120, 98] 2 0 2 = .tuple #[vBuf [98] 0, .string ⟨#[97, 120]⟩] := by
  unfold cutV back
  rw [al_m2]
  simp only [cuts_F]
  kernel_rfl
set_option maxRecDepth 100000 in
theorem al_3 : swV [97, 98] 2 = .tuple #[vBuf [98, 97] 2, .bool true] := by
  unfold swV swAt prevN nextN on back
  rw [al_m1]
  simp only [cuts_F]
  rw [al_m1]
  kernel_rfl
set_option maxRecDepth 100000 in
theorem al_4 : pl [97, 9, 98, 0] = [97, 32, 98] := by decide
set_option maxRecDepth 100000 in
theorem al_5 : rightB [97, 120, 98] 2 = true := by
  unfold rightB
  simp only [cuts_F]
  decide
set_option maxRecDepth 100000 in
theorem al_6 : bufV (mkS [101, 204, 129]) (back (mkS [101, 204, 129]) 1) = vBuf [101, 204, 129] 0 := by
  unfold back
  rw [al_m3]
  simp only [cuts_F]
  kernel_rfl
set_option maxRecDepth 100000 in
theorem al_7 : nextN [101, 204, 129, 120] 0 = 3 := by
  unfold nextN on back
  rw [al_m4]
  simp only [cuts_F]
  decide
set_option maxRecDepth 100000 in
theorem al_8 : prevN [97, 98] 1 = 0 := by
  unfold prevN back
  rw [al_m1]
  simp only [cuts_F]
  decide
set_option maxRecDepth 100000 in
theorem al_9 : 5 ≤ (cuts (mkS [97, 98, 32, 99, 100])).length ∧ back (mkS [97, 98, 32, 99, 100]) 5 = off (cuts (mkS [97, 98, 32, 99, 100])) 5 ∧ off (cuts (mkS [97, 98, 32, 99, 100])) (skipL true (cuts (mkS [97, 98, 32, 99, 100])) (skipL false (cuts (mkS [97, 98, 32, 99, 100])) 5)) = 3 := by
  unfold back
  rw [al_m5]
  simp only [cuts_F]
  decide
set_option maxRecDepth 100000 in
theorem al_10 : 2 ≤ (cuts (mkS [97, 98, 32, 99, 100])).length ∧ back (mkS [97, 98, 32, 99, 100]) 2 = off (cuts (mkS [97, 98, 32, 99, 100])) 2 ∧ off (cuts (mkS [97, 98, 32, 99, 100])) (skipR true (cuts (mkS [97, 98, 32, 99, 100])) (skipR false (cuts (mkS [97, 98, 32, 99, 100])) 2)) = 5 := by
  unfold back
  rw [al_m5]
  simp only [cuts_F]
  decide
set_option maxRecDepth 100000 in
theorem al_11 : firstS [32, 97, 98, 32, 99, 100] = [32, 97, 98] := by
  unfold firstS
  rw [al_m6]
  simp only [cuts_F]
  decide
end Go.Proofs.YtcifakmlfndlaaaDoor
namespace Go.Proofs.YtcifakmlfndlaaaDoor
set_option linter.unusedVariables false
set_option linter.unusedSimpArgs false
open Go.RowKit Go.Shelf
set_option maxRecDepth 100000 in
set_option maxHeartbeats 3200000 in
/-- alive. -/
theorem al03_calls (w : World) (hU : U8 w) : Calls Tryd.prog 11 #[] w fun e w' => e = .returned (.bool true) ∧ Below w.heap.size w w' := by
  have q1 := fun (W : World) (h : U8 W) => Insert_calls [97, 98] (by decide) ⟨#[97, 98]⟩ rfl 1 [120] (by decide) ⟨#[120]⟩ rfl W h
  rw [al_1] at q1
  have q2 := fun (W : World) (h : U8 W) => Cut3_calls [97, 120, 98] (by decide) ⟨#[97, 120, 98]⟩ rfl 2 0 2 W h
  rw [al_2] at q2
  have q3 := fun (W : World) (h : U8 W) => Swap_calls [97, 98] (by decide) ⟨#[97, 98]⟩ rfl 2 W h
  rw [al_3] at q3
  have q4 := fun (W : World) (h : U8 W) => Plain_calls [97, 9, 98, 0] (by decide) ⟨#[97, 9, 98, 0]⟩ rfl W h
  rw [al_4] at q4
  have q5 := fun (W : World) (h : U8 W) => Right_calls [97, 120, 98] (by decide) ⟨#[97, 120, 98]⟩ rfl 2 W h
  rw [al_5] at q5
  have q6 := fun (W : World) (h : U8 W) => Make_calls [101, 204, 129] (by decide) ⟨#[101, 204, 129]⟩ rfl 1 W h
  rw [al_6] at q6
  have q7 := fun (W : World) (h : U8 W) => Nx_calls [101, 204, 129, 120] (by decide) ⟨#[101, 204, 129, 120]⟩ rfl 0 W h
  rw [al_7] at q7
  have q8 := fun (W : World) (h : U8 W) => Pv_calls [97, 98] (by decide) ⟨#[97, 98]⟩ rfl 1 W h
  rw [al_8] at q8
  have q9 := fun (W : World) (h : U8 W) => WordLeft_calls [97, 98, 32, 99, 100] (by decide) ⟨#[97, 98, 32, 99, 100]⟩ rfl 5 5 al_9.1 al_9.2.1 W h
  rw [al_9.2.2] at q9
  have q10 := fun (W : World) (h : U8 W) => WordRight_calls [97, 98, 32, 99, 100] (by decide) ⟨#[97, 98, 32, 99, 100]⟩ rfl 2 2 al_10.1 al_10.2.1 W h
  rw [al_10.2.2] at q10
  have q11 := fun (W : World) (h : U8 W) => First_calls [32, 97, 98, 32, 99, 100] (by decide) ⟨#[32, 97, 98, 32, 99, 100]⟩ rfl W h
  rw [al_11] at q11
  unfold vBuf at q1 q2 q3 q6
  rw [show n64 3 = .int .i64 3 from rfl] at q7 q9
  rw [show n64 0 = .int .i64 0 from rfl] at q8
  rw [show n64 5 = .int .i64 5 from rfl] at q10
  have Q1 := Lib.hid q1
  have Q2 := Lib.hid q2
  have Q3 := Lib.hid q3
  have Q4 := Lib.hid q4
  have Q5 := Lib.hid q5
  have Q6 := Lib.hid q6
  have Q7 := Lib.hid q7
  have Q8 := Lib.hid q8
  have Q9 := Lib.hid q9
  have Q10 := Lib.hid q10
  have Q11 := Lib.hid q11
  have HU := Lib.hid hU
  clear q1 q2 q3 q4 q5 q6 q7 q8 q9 q10 q11 hU
  go_enter Tryd.func11, Tryd.ntmps11
  go_wp2_with fail
  refine (Q1.out w HU.out).mono ?_
  rintro e w1 ⟨rfl, B1⟩
  have hnew : ∀ (W : World) (x : ByteArray) (y : Int), ∃ W', W.alloc (.cells #[.string x, .int .i64 y] 25) = W' ∧ W'.heap[W.heap.size]? = some (.cells #[.string x, .int .i64 y] 25 (0, 0)) ∧ W'.cell? ⟨W.heap.size, 0, none⟩ = some (.string x) ∧ W'.cell? ⟨W.heap.size, 1, none⟩ = some (.int .i64 y) ∧ Below W.heap.size W W' := fun W x y => by
    have h := heap_alloc_new W (.cells #[.string x, .int .i64 y] 25)
    obtain ⟨c0, c1, _, _⟩ := buf_cells h
    exact ⟨_, rfl, h, c0, c1, (Below.refl _ W).alloc (Nat.le_refl _) _⟩
  have HN := Lib.hid hnew
  clear hnew
  go_wp2_with fail
  obtain ⟨w2, e2, h2, c0, c1, b2⟩ := HN.out w1 ⟨#[97, 120, 98]⟩ 2
  rw [e2]
  have g0 : ∀ W, (binOp .eql 25 (.agg #[.string ⟨#[97, 120, 98]⟩, .int .i64 2]) (.agg #[.string ⟨#[97, 120, 98]⟩, .int .i64 2])).run Tryd.prog W = .ok (.bool true) W := fun _ => by kernel_rfl
  have g1 : ∀ W, (binOp .eql 25 (.agg #[.string ⟨#[98]⟩, .int .i64 0]) (.agg #[.string ⟨#[98]⟩, .int .i64 0])).run Tryd.prog W = .ok (.bool true) W := fun _ => by kernel_rfl
  have g2 : ∀ W, (binOp .eql 25 (.agg #[.string ⟨#[98, 97]⟩, .int .i64 2]) (.agg #[.string ⟨#[98, 97]⟩, .int .i64 2])).run Tryd.prog W = .ok (.bool true) W := fun _ => by kernel_rfl
  have g3 : ∀ W, (binOp .eql 25 (.agg #[.string ⟨#[101, 204, 129]⟩, .int .i64 0]) (.agg #[.string ⟨#[101, 204, 129]⟩, .int .i64 0])).run Tryd.prog W = .ok (.bool true) W := fun _ => by kernel_rfl
  have B2 : Below w.heap.size w w2 := B1.trans (b2.mono B1.size)
  refine (Q2.out w2 (HU.out.later B2)).mono ?_
  rintro e w3 ⟨rfl, b3⟩
  have B3 : Below w.heap.size w w3 := B2.trans (b3.mono B2.size)
  have l2 := lt_of_heap h2
  have h3 := (b3.block _ l2).trans h2
  obtain ⟨x0, x1, _, _⟩ := buf_cells h3
  have H3 := Lib.hid h3
  clear h3 h2 c0 c1 b2 b3 e2
  go_wp2_with fail
  obtain ⟨w4, e4, h4, c0, c1, b4⟩ := HN.out w3 ⟨#[98]⟩ 0
  rw [e4]
  have B4 : Below w.heap.size w w4 := B3.trans (b4.mono B3.size)
  have l3 := lt_of_heap H3.out
  have h4' := (b4.block _ l3).trans H3.out
  have H4 := Lib.hid h4
  have H4' := Lib.hid h4'
  clear h4 h4' x0 x1 e4 b4
  go_wp2_with fail
  refine (Q3.out w4 (HU.out.later B4)).mono ?_
  rintro e w5 ⟨rfl, b5⟩
  have B5 : Below w.heap.size w w5 := B4.trans (b5.mono B4.size)
  have h5 := (b5.block _ (lt_of_heap H4.out)).trans H4.out
  have h5' := (b5.block _ (lt_of_heap H4'.out)).trans H4'.out
  have H5 := Lib.hid h5
  have H5' := Lib.hid h5'
  obtain ⟨d0, d1, _, _⟩ := buf_cells h5
  obtain ⟨d2, d3, _, _⟩ := buf_cells h5'
  have l15 := lt_of_heap h5'
  have l35 := lt_of_heap h5
  clear h5 h5' c0 c1 b5
  go_wp2_with fail
  obtain ⟨w6, e6, h6, c0, c1, b6⟩ := HN.out w5 ⟨#[98, 97]⟩ 2
  rw [e6]
  have B6 : Below w.heap.size w w6 := B5.trans (b6.mono B5.size)
  have h7 := (b6.block _ (lt_of_heap H5.out)).trans H5.out
  have h7' := (b6.block _ (lt_of_heap H5'.out)).trans H5'.out
  have H6 := Lib.hid h6
  have H7' := Lib.hid h7'
  clear h6 h7 h7' e6 b6
  refine (Q4.out w6 (HU.out.later B6)).mono ?_
  rintro e w7 ⟨rfl, b7⟩
  have B7 : Below w.heap.size w w7 := B6.trans (b7.mono B6.size)
  obtain ⟨y0, y1, _, _⟩ := buf_cells ((b7.block _ (lt_of_heap H7'.out)).trans H7'.out)
  clear c0 c1 d0 d1 d2 d3 b7
  go_wp2_with fail
  refine (Q5.out w7 (HU.out.later B7)).mono ?_
  rintro e w8 ⟨rfl, b8⟩
  have B8 : Below w.heap.size w w8 := B7.trans (b8.mono B7.size)
  clear y0 y1 b8
  go_wp2_with fail
  refine (Q6.out w8 (HU.out.later B8)).mono ?_
  rintro e w9 ⟨rfl, b9⟩
  have B9 : Below w.heap.size w w9 := B8.trans (b9.mono B8.size)
  go_wp2_with fail
  refine (Q7.out w9 (HU.out.later B9)).mono ?_
  rintro e w10 ⟨rfl, b10⟩
  have B10 : Below w.heap.size w w10 := B9.trans (b10.mono B9.size)
  go_wp2_with fail
  refine (Q8.out w10 (HU.out.later B10)).mono ?_
  rintro e w11 ⟨rfl, b11⟩
  have B11 : Below w.heap.size w w11 := B10.trans (b11.mono B10.size)
  go_wp2_with fail
  refine (Q9.out w11 (HU.out.later B11)).mono ?_
  rintro e w12 ⟨rfl, b12⟩
  have B12 : Below w.heap.size w w12 := B11.trans (b12.mono B11.size)
  go_wp2_with fail
  refine (Q10.out w12 (HU.out.later B12)).mono ?_
  rintro e w13 ⟨rfl, b13⟩
  have B13 : Below w.heap.size w w13 := B12.trans (b13.mono B12.size)
  go_wp2_with fail
  refine (Q11.out w13 (HU.out.later B13)).mono ?_
  rintro e w14 ⟨rfl, b14⟩
  have B14 : Below w.heap.size w w14 := B13.trans (b14.mono B13.size)
  go_wp2
  go_ret
  exact ⟨rfl, B14⟩
end Go.Proofs.YtcifakmlfndlaaaDoor
namespace Go.Proofs.YtcifakmlfndlaaaDoor
set_option linter.unusedVariables false
set_option linter.unusedSimpArgs false
open Go.RowKit Go.Shelf
def few3B (ss : List Bs) : Bool := decide (ss.flatten.length ≤ 1500)
theorem flat_bound (ss : List Bs) (B : Nat) (h : ∀ s ∈ ss, s.length ≤ B) : ss.flatten.length ≤ ss.length * B := by
  induction ss with
  | nil => simp
  | cons s ss ih =>
    have h1 := h s (List.mem_cons_self ..)
    have h2 := ih fun x hx => h x (List.mem_cons_of_mem _ hx)
    rw [List.flatten_cons, List.length_append, List.length_cons, Nat.add_mul]; omega
set_option maxRecDepth 100000 in
set_option maxHeartbeats 800000 in
/-- few. -/
theorem few3_calls (w : World) (A : Option Addr) (c : Nat) (ss : List Bs) (hr : Rd w A (ss.map str)) (hn : ss.length ≤ 4) (hs : ∀ s ∈ ss, s.length ≤ 140737488351232) :
    Calls Tryd.prog 10 #[.slice A ss.length c] w fun e w' => e = .returned (.bool (few3B ss)) ∧ w' = w := by
  have HR := Lib.hid hr
  have HS := Lib.hid hs
  clear hr hs
  go_enter Tryd.func10, Tryd.ntmps10
  go_wp2
  go_loopw [3, 8] (fun u3 u8 wr => ∃ (j m : Nat), u8 = n64 j ∧ j ≤ ss.length ∧ u3 = n64 m ∧ m = (ss.take j).flatten.length ∧ wr = w) (fun _ u8 _ => (ss.length - intOf u8).toNat)
  case atStart => exact ⟨0, 0, rfl, Nat.zero_le _, rfl, rfl, rfl⟩
  case round =>
    obtain ⟨j, m, rfl, hj, rfl, hm, rfl⟩ := hrel
    have HM := Lib.hid hm
    have hmle : m ≤ 4 * 140737488351232 := by
      have h1 := flat_bound (ss.take j) 140737488351232 fun o ho => HS.out o (List.mem_of_mem_take ho)
      have h2 : (ss.take j).length ≤ 4 := by rw [List.length_take]; omega
      rw [hm]
      exact Nat.le_trans h1 (Nat.mul_le_mul_right _ h2)
    clear hm
    by_cases hlt : j < ss.length
    · obtain ⟨o, ho⟩ : ∃ o, ss[j]? = some o := ⟨_, List.getElem?_eq_getElem hlt⟩
      obtain ⟨so, hso⟩ : ∃ s : ByteArray, s = ⟨o.toArray⟩ := ⟨_, rfl⟩
      obtain ⟨g, off, rfl, c0⟩ := HR.out j (str o) (by rw [List.getElem?_map, ho]; rfl)
      rw [lit_of hso] at c0
      have hsz : so.size = o.length := by rw [hso, str_of]
      have hko := HS.out o (List.mem_of_getElem? ho)
      have hks : so.size ≤ 140737488351232 := by omega
      have htk : (ss.take (j + 1)).flatten.length = m + so.size := by
        rw [List.take_add_one, ho, List.flatten_append, List.length_append, ← HM.out, hsz, Option.toList_some, List.flatten_cons, List.flatten_nil, List.append_nil]
      have HTK := Lib.hid htk
      have hjl : (j : Int) < (ss.length : Int) := by omega
      clear htk hsz hso ho
      go_wp2
      go_roundw
      case rel => exact ⟨j + 1, m + so.size, by go_num, by omega, by go_num, HTK.out.symm, trivial⟩
      case measure => simp [intOf]; omega
    · obtain rfl : j = ss.length := by omega
      have hfin : few3B ss = decide (m ≤ 1500) := by
        unfold few3B
        rw [HM.out, List.take_length]
      have HF := Lib.hid hfin
      clear hfin
      by_cases hm2 : m ≤ 1500
      · have hmi : decide ((m : Int) ≤ 1500) = true := by simp; omega
        go_wp2
        go_ret
        exact ⟨by rw [HF.out, decide_eq_true hm2]; rfl, rfl⟩
      · have hmi : decide ((m : Int) ≤ 1500) = false := by simp; omega
        go_wp2
        go_ret
        exact ⟨by rw [HF.out, decide_eq_false hm2]; rfl, rfl⟩
end Go.Proofs.YtcifakmlfndlaaaDoor
namespace Go.Proofs.YtcifakmlfndlaaaDoor
set_option linter.unusedVariables false
set_option linter.unusedSimpArgs false
open Go.RowKit Go.Shelf
theorem eq_fields {P : Program} {ts ti : TypeId} (f g : Field) (hf : f.type = ts ∧ f.offset = 0 ∧ f.name ≠ "_") (hg : g.type = ti ∧ g.offset = 1 ∧ g.name ≠ "_") (h1 : P.underlying ts = some .string) (h2 : P.underlying ti = some (.int .i64))
    (x y : ByteArray) (n m : Int) (W : World) : (Op.eqFields 9999 #[.string x, .int .i64 n] #[.string y, .int .i64 m] [f, g]).run P W = .ok (x.toList == y.toList && n == m) W := by
  obtain ⟨rfl, ho, hn⟩ := hf
  obtain ⟨rfl, go, gn⟩ := hg
  have p1 : ∀ u v W, (part f.type #[u, v] f.offset).run P W = .ok u W := fun u v W => by rw [ho]; simp [part, isAgg, run_underlying h1, go_sem]
  have p2 : ∀ u v W, (part g.type #[u, v] g.offset).run P W = .ok v W := fun u v W => by rw [go]; simp [part, isAgg, run_underlying h2, go_sem]
  simp only [Op.eqFields, hn, gn, ne_eq, not_false_eq_true, if_true, Sem.run_bind, p1, p2, Result.andThen_ok, run_equalIn_string W 9998 f.type x y h1, run_equalIn_int W 9998 g.type .i64 .i64 n m h2]
  cases hc : (x.toList == y.toList) with
  | false => simp
  | true =>
    simp only [Bool.not_true, Bool.false_eq_true, if_false, Sem.run_bind, p2, Result.andThen_ok, run_equalIn_int W 9998 g.type .i64 .i64 n m h2, Bool.true_and]
    cases hd : (n == m) <;> simp
theorem Tryd.eq_buf (x y : ByteArray) (n m : Int) (W : World) : (binOp .eql 25 (.agg #[.string x, .int .i64 n]) (.agg #[.string y, .int .i64 m])).run Tryd.prog W = .ok (.bool (x.toList == y.toList && n == m)) W := by
  obtain ⟨f, g, hfg, hf, hg⟩ : ∃ f g : Field, (Tryd.prog.fieldsOf 25).toList = [f, g] ∧ (f.type = 9 ∧ f.offset = 0 ∧ f.name = "S") ∧ (g.type = 3 ∧ g.offset = 1 ∧ g.name = "At") := ⟨⟨"S", 9, 0, false, "", "", 0⟩, ⟨"At", 3, 1, false, "", "", 16⟩, by kernel_rfl, ⟨rfl, rfl, rfl⟩, ⟨rfl, rfl, rfl⟩⟩
  rw [run_eql_struct, run_equalIn_agg W 9999 _ _ _ (by kernel_rfl) (by kernel_rfl), hfg, eq_fields f g ⟨hf.1, hf.2.1, by rw [hf.2.2]; decide⟩ ⟨hg.1, hg.2.1, by rw [hg.2.2]; decide⟩ Tryd.underlying9 Tryd.underlying3]
  rfl
theorem Tryd.eq_rbuf (x y : ByteArray) (n m : Int) (W : World) : (binOp .eql 27 (.agg #[.string x, .int .i64 n]) (.agg #[.string y, .int .i64 m])).run Tryd.prog W = .ok (.bool (x.toList == y.toList && n == m)) W := by
  obtain ⟨f, g, hfg, hf, hg⟩ : ∃ f g : Field, (Tryd.prog.fieldsOf 27).toList = [f, g] ∧ (f.type = 9 ∧ f.offset = 0 ∧ f.name = "S") ∧ (g.type = 3 ∧ g.offset = 1 ∧ g.name = "At") := ⟨⟨"S", 9, 0, false, "", "", 0⟩, ⟨"At", 3, 1, false, "", "", 16⟩, by kernel_rfl, ⟨rfl, rfl, rfl⟩, ⟨rfl, rfl, rfl⟩⟩
  rw [run_eql_struct, run_equalIn_agg W 9999 _ _ _ (by kernel_rfl) (by kernel_rfl), hfg, eq_fields f g ⟨hf.1, hf.2.1, by rw [hf.2.2]; decide⟩ ⟨hg.1, hg.2.1, by rw [hg.2.2]; decide⟩ Tryd.underlying9 Tryd.underlying3]
  rfl
end Go.Proofs.YtcifakmlfndlaaaDoor
