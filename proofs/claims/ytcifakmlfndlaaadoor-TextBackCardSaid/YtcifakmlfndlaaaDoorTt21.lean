import Derived.Test.YtcifakmlfndlaaaDoorTt17
namespace Go.Proofs.YtcifakmlfndlaaaDoor
set_option linter.unusedVariables false
set_option linter.unusedSimpArgs false
open Go.RowKit Go.Shelf
theorem insS_pl (l m : Bs) (a : Int) : Pl (insT l m a) := ins_pl (mkS_pl l) (pl_pl m) a
theorem ins_both (l m : Bs) (a : Int) : ∃ (R : Bs) (x : Nat) (ok : Bool), insV l m a = .tuple #[bufV R x, .int .i64 (if ok = true then 0 else 30)] ∧ rinsV l m a = .tuple #[bufV R x, .bool ok] ∧ rightB R x = true ∧ R.length ≤ 600 := by
  cases h : insOk l m with
  | true =>
    have hl : (insT l m a).length ≤ 600 := by
      unfold insOk at h
      have := of_decide_eq_true h
      unfold insT; rw [ins_len]; exact this
    exact ⟨_, _, true, insV_yes h, rinsV_yes h, right_on (insS_pl l m a) hl _, hl⟩
  | false => exact ⟨_, _, false, insV_no h, rinsV_no h, right_back (mkS_pl l) (mkS_len l) a, mkS_len l⟩
theorem rd_new (w : World) (cs : Array Value) (e : TypeId) : Rd (w.alloc (.cells cs e)) (some ⟨w.heap.size, 0, none⟩) cs.toList := by
  intro i u h
  refine ⟨w.heap.size, 0, rfl, ?_⟩
  rw [cell_of_row _ _ _ _ _ (0, 0) (heap_alloc_new w (.cells cs e)), Nat.zero_add, ← Array.getElem?_toList]
  exact h
set_option maxRecDepth 100000 in
set_option maxHeartbeats 3200000 in
theorem TextInserts_walk (w : World) (hU : U8 w) (s t : ByteArray) (a : Int) (hs : s.size ≤ 140737488351232) (ht : t.size ≤ 140737488351232) :
    Calls Tryd.prog 4 #[.agg #[.string s, .int .i64 a], .string t] w fun e w' => e = .returned (.bool true) ∧ Below w.heap.size w w' := by
  obtain ⟨l, hsl⟩ : ∃ l : Bs, s = ⟨l.toArray⟩ := ⟨s.data.toList, by cases s; simp⟩
  obtain ⟨m, htl⟩ : ∃ l : Bs, t = ⟨l.toArray⟩ := ⟨t.data.toList, by cases t; simp⟩
  rw [hsl, str_of] at hs
  rw [htl, str_of] at ht
  obtain ⟨W0, hW0⟩ : ∃ W0, W0 = (w.alloc (.cells #[.string s, .int .i64 a] 27)) := ⟨_, rfl⟩
  have hB0 : Below w.heap.size w W0 := by rw [hW0]; exact (Below.refl _ w).alloc (Nat.le_refl _) _
  have hb0 : W0.heap[w.heap.size]? = some (.cells #[.string s, .int .i64 a] 27 (0, 0)) := by rw [hW0]; exact heap_alloc_new w _
  have hz0 : W0.heap.size = w.heap.size + 1 := by rw [hW0]; simp
  obtain ⟨c0, c1, _, _⟩ := buf_cells hb0
  obtain ⟨W1, hW1⟩ : ∃ W1, W1 = W0.alloc (.cells #[.string s, .string t] 9) := ⟨_, rfl⟩
  have hB1 : Below w.heap.size w W1 := by rw [hW1]; exact hB0.alloc hB0.size _
  have hb1 : W1.heap[w.heap.size]? = some (.cells #[.string s, .int .i64 a] 27 (0, 0)) := by rw [hW1]; exact (Below.heap_alloc _ _ _ (lt_of_heap hb0)).trans hb0
  obtain ⟨d0, d1, _, _⟩ := buf_cells hb1
  have hrd : Rd W1 (some ⟨w.heap.size + 1, 0, none⟩) ([l, m].map str) := by
    have := rd_new W0 #[.string s, .string t] 9
    rw [← hW1, hz0, hsl, htl] at this
    exact this
  have qf : Calls Tryd.prog 10 #[.slice (some ⟨w.heap.size + 1, 0, none⟩) 2 2] W1 fun e w' => e = .returned (.bool (few3B [l, m])) ∧ w' = W1 := few3_calls W1 _ 2 [l, m] hrd (by simp) (fun s h => by
    simp only [List.mem_cons, List.not_mem_nil, or_false] at h
    rcases h with rfl | rfl <;> omega)
  have QF := Lib.hid qf
  have HU := Lib.hid hU
  have HW1 := Lib.hid (show W1 = (w.alloc (.cells #[.string s, .int .i64 a] 27)).alloc (.cells #[.string s, .string t] 9) by rw [hW1, hW0])
  have HB1 := Lib.hid hB1
  have H1 := Lib.hid hb1
  have al := fun (W : World) (h : U8 W) => al03_calls W h
  have AL := Lib.hid al
  have hnew : ∀ (W : World) (x y : Value) (T : TypeId), ∃ W', W.alloc (.cells #[x, y] T) = W' ∧ W'.heap[W.heap.size]? = some (.cells #[x, y] T (0, 0)) ∧ Below W.heap.size W W' := fun W x y T =>
    ⟨_, rfl, heap_alloc_new W _, (Below.refl _ W).alloc (Nat.le_refl _) _⟩
  have HN := Lib.hid hnew
  have HSL := Lib.hid hsl
  have HTL := Lib.hid htl
  clear qf hsl htl hU hW0 hW1 hB1 hB0 hb1 hb0 hrd al hnew c0 c1 hz0
  go_enter Tryd.func4, Tryd.ntmps4
  go_wp2_with fail
  rw [← HW1.out]
  refine QF.out.mono ?_
  rintro e w' ⟨rfl, rfl⟩
  cases hfw : few3B [l, m] with
  | false =>
    clear hfw
    go_wp2_with fail
    refine (AL.out _ (HU.out.later HB1.out)).mono ?_
    rintro e w2 ⟨rfl, hb2⟩
    go_wp2
    go_ret
    exact ⟨rfl, HB1.out.trans (hb2.mono HB1.out.size)⟩
  | true =>
    have hf : l.length + m.length ≤ 1500 := by
      unfold few3B at hfw
      simpa using hfw
    have q1 := Insert_calls l (by omega) s HSL.out a m (by omega) t HTL.out w' (HU.out.later HB1.out)
    have q2 := fun (W : World) (h : U8 W) => rInsert_calls l (by omega) s HSL.out a m (by omega) t HTL.out W h
    obtain ⟨R, x, ok, h1, h2, h3, h4⟩ := ins_both l m a
    rw [h1] at q1
    rw [h2] at q2
    obtain ⟨br, hbr⟩ : ∃ s : ByteArray, s = ⟨R.toArray⟩ := ⟨_, rfl⟩
    rw [show bufV R x = .agg #[.string br, .int .i64 (x : Int)] by rw [hbr]] at q1 q2
    have qr := fun (W : World) (h : U8 W) => Right_calls R (by omega) br hbr x W h
    rw [h3] at qr
    have QR := Lib.hid qr
    have heq : ∀ W, (binOp .eql 27 (.agg #[.string br, .int .i64 (x : Int)]) (.agg #[.string br, .int .i64 (x : Int)])).run Tryd.prog W = .ok (.bool true) W := fun W => by rw [Tryd.eq_rbuf]; simp
    clear hfw h1 h2 h3 h4 hbr hf hs ht qr
    cases ok with
    | false =>
      rw [if_neg (by decide)] at q1
      have Q1 := Lib.hid q1
      have Q2 := Lib.hid q2
      clear q1 q2
      go_wp2_with fail
      refine (Q1.out).mono ?_
      rintro e w2 ⟨rfl, b2⟩
      have B2 := HB1.out.trans (b2.mono HB1.out.size)
      have h2 := (b2.block _ (lt_of_heap H1.out)).trans H1.out
      have l2 := lt_of_heap h2
      obtain ⟨y0, y1, _, _⟩ := buf_cells h2
      have H2 := Lib.hid h2
      clear b2 h2 d0 d1
      go_wp2_with fail
      obtain ⟨w3, e3, h3, b3⟩ := HN.out w2 (.string br) (.int .i64 x) 25
      rw [e3]
      have B3 := B2.trans (b3.mono B2.size)
      have H3 := Lib.hid h3
      clear h3 b3 e3 y0 y1
      refine (Q2.out w3 (HU.out.later B3)).mono ?_
      rintro e w4 ⟨rfl, b4⟩
      have B4 := B3.trans (b4.mono B3.size)
      have h4 := (b4.block _ (lt_of_heap H3.out)).trans H3.out
      have H4 := Lib.hid h4
      clear b4 h4
      go_wp2_with fail
      obtain ⟨w5, e5, h5, b5⟩ := HN.out w4 (.string br) (.int .i64 x) 27
      rw [e5]
      have B5 := B4.trans (b5.mono B4.size)
      have h5' := (b5.block _ (lt_of_heap H4.out)).trans H4.out
      have H5 := Lib.hid h5
      have H5' := Lib.hid h5'
      clear h5 b5 h5' e5
      refine (AL.out w5 (HU.out.later B5)).mono ?_
      rintro e w6 ⟨rfl, b6⟩
      have B6 := B5.trans (b6.mono B5.size)
      have h6 := (b6.block _ (lt_of_heap H5.out)).trans H5.out
      have h6' := (b6.block _ (lt_of_heap H5'.out)).trans H5'.out
      obtain ⟨y0, y1, _, _⟩ := buf_cells h6
      obtain ⟨z0, z1, _, _⟩ := buf_cells h6'
      clear b6 h6 h6'
      go_wp2_with fail
      refine (QR.out w6 (HU.out.later B6)).mono ?_
      rintro e w7 ⟨rfl, b7⟩
      have B7 := B6.trans (b7.mono B6.size)
      go_wp2
      go_ret
      exact ⟨rfl, B7⟩
    | true =>
      rw [if_pos rfl] at q1
      have Q1 := Lib.hid q1
      have Q2 := Lib.hid q2
      clear q1 q2
      go_wp2_with fail
      refine (Q1.out).mono ?_
      rintro e w2 ⟨rfl, b2⟩
      have B2 := HB1.out.trans (b2.mono HB1.out.size)
      have h2 := (b2.block _ (lt_of_heap H1.out)).trans H1.out
      have l2 := lt_of_heap h2
      obtain ⟨y0, y1, _, _⟩ := buf_cells h2
      have H2 := Lib.hid h2
      clear b2 h2 d0 d1
      go_wp2_with fail
      obtain ⟨w3, e3, h3, b3⟩ := HN.out w2 (.string br) (.int .i64 x) 25
      rw [e3]
      have B3 := B2.trans (b3.mono B2.size)
      have H3 := Lib.hid h3
      clear h3 b3 e3 y0 y1
      refine (Q2.out w3 (HU.out.later B3)).mono ?_
      rintro e w4 ⟨rfl, b4⟩
      have B4 := B3.trans (b4.mono B3.size)
      have h4 := (b4.block _ (lt_of_heap H3.out)).trans H3.out
      have H4 := Lib.hid h4
      clear b4 h4
      go_wp2_with fail
      obtain ⟨w5, e5, h5, b5⟩ := HN.out w4 (.string br) (.int .i64 x) 27
      rw [e5]
      have B5 := B4.trans (b5.mono B4.size)
      have h5' := (b5.block _ (lt_of_heap H4.out)).trans H4.out
      have H5 := Lib.hid h5
      have H5' := Lib.hid h5'
      clear h5 b5 h5' e5
      refine (AL.out w5 (HU.out.later B5)).mono ?_
      rintro e w6 ⟨rfl, b6⟩
      have B6 := B5.trans (b6.mono B5.size)
      have h6 := (b6.block _ (lt_of_heap H5.out)).trans H5.out
      have h6' := (b6.block _ (lt_of_heap H5'.out)).trans H5'.out
      obtain ⟨y0, y1, _, _⟩ := buf_cells h6
      obtain ⟨z0, z1, _, _⟩ := buf_cells h6'
      clear b6 h6 h6'
      go_wp2_with fail
      refine (QR.out w6 (HU.out.later B6)).mono ?_
      rintro e w7 ⟨rfl, b7⟩
      have B7 := B6.trans (b7.mono B6.size)
      go_wp2
      go_ret
      exact ⟨rfl, B7⟩
end Go.Proofs.YtcifakmlfndlaaaDoor
