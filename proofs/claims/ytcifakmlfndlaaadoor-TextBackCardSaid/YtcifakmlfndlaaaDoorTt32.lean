import Derived.Test.YtcifakmlfndlaaaDoorTt31
import Derived.Test.YtcifakmlfndlaaaDoorTt27
namespace Go.Proofs.YtcifakmlfndlaaaDoor
set_option linter.unusedVariables false
set_option linter.unusedSimpArgs false
open Go.RowKit Go.Shelf
theorem Tryd.neq_buf (x y : ByteArray) (n m : Int) (W : World) : (binOp .neq 25 (.agg #[.string x, .int .i64 n]) (.agg #[.string y, .int .i64 m])).run Tryd.prog W = .ok (.bool (!(x.toList == y.toList && n == m))) W := by
  obtain ⟨f, g, hfg, hf, hg⟩ : ∃ f g : Field, (Tryd.prog.fieldsOf 25).toList = [f, g] ∧ (f.type = 9 ∧ f.offset = 0 ∧ f.name = "S") ∧ (g.type = 3 ∧ g.offset = 1 ∧ g.name = "At") := ⟨⟨"S", 9, 0, false, "", "", 0⟩, ⟨"At", 3, 1, false, "", "", 16⟩, by kernel_rfl, ⟨rfl, rfl, rfl⟩, ⟨rfl, rfl, rfl⟩⟩
  rw [run_neq_struct, run_equalIn_agg W 9999 _ _ _ (by kernel_rfl) (by kernel_rfl), hfg, eq_fields f g ⟨hf.1, hf.2.1, by rw [hf.2.2]; decide⟩ ⟨hg.1, hg.2.1, by rw [hg.2.2]; decide⟩ Tryd.underlying9 Tryd.underlying3]
  rfl
theorem keepB {w w' : World} {k : Nat} {o : Obj} (h : w.heap[k]? = some o) (b : Below w.heap.size w w') : w'.heap[k]? = some o := (b.block k (lt_of_heap h)).trans h
set_option maxRecDepth 100000 in
set_option maxHeartbeats 12800000 in
theorem TextBack_walk (w : World) (hU : U8 w) (s t : ByteArray) (a q : Int) (hs : s.size ≤ 140737488351232) (ht : t.size ≤ 140737488351232) :
    Calls Tryd.prog 7 #[.agg #[.string s, .int .i64 a], .string t, .int .i64 q] w fun e w' => e = .returned (.bool true) ∧ Below w.heap.size w w' := by
  obtain ⟨l, hsl⟩ : ∃ l : Bs, s = ⟨l.toArray⟩ := ⟨s.data.toList, by cases s; simp⟩
  obtain ⟨m, htl⟩ : ∃ l : Bs, t = ⟨l.toArray⟩ := ⟨t.data.toList, by cases t; simp⟩
  rw [hsl, str_of] at hs
  rw [htl, str_of] at ht
  obtain ⟨W0, hW0⟩ : ∃ W0, W0 = (w.alloc (.cells #[.string s, .int .i64 a] 27)) := ⟨_, rfl⟩
  have hB0 : Below w.heap.size w W0 := by rw [hW0]; exact (Below.refl _ w).alloc (Nat.le_refl _) _
  have hb0 : W0.heap[w.heap.size]? = some (.cells #[.string s, .int .i64 a] 27 (0, 0)) := by rw [hW0]; exact heap_alloc_new w _
  have hz0 : W0.heap.size = w.heap.size + 1 := by rw [hW0]; simp
  obtain ⟨c0, c1, _, _⟩ := buf_cells hb0
  obtain ⟨W1, hW1⟩ : ∃ W1, W1 = W0.alloc (.cells #[.string s, .string t] 9) := ⟨_, rfl⟩
  have hB1 : Below w.heap.size w W1 := by rw [hW1]; exact hB0.alloc hB0.size _
  have hb1 : W1.heap[w.heap.size]? = some (.cells #[.string s, .int .i64 a] 27 (0, 0)) := by rw [hW1]; exact (Below.heap_alloc _ _ _ (lt_of_heap hb0)).trans hb0
  obtain ⟨d0, d1, _, _⟩ := buf_cells hb1
  have hrd : Rd W1 (some ⟨w.heap.size + 1, 0, none⟩) ([l, m].map str) := by
    have := rd_new W0 #[.string s, .string t] 9
    rw [← hW1, hz0, hsl, htl] at this
    exact this
  have qf : Calls Tryd.prog 10 #[.slice (some ⟨w.heap.size + 1, 0, none⟩) 2 2] W1 fun e w' => e = .returned (.bool (few3B [l, m])) ∧ w' = W1 := few3_calls W1 _ 2 [l, m] hrd (by simp) (fun s h => by
    simp only [List.mem_cons, List.not_mem_nil, or_false] at h
    rcases h with rfl | rfl <;> omega)
  have QF := Lib.hid qf
  have HU := Lib.hid hU
  have HW1 := Lib.hid (show W1 = (w.alloc (.cells #[.string s, .int .i64 a] 27)).alloc (.cells #[.string s, .string t] 9) by rw [hW1, hW0])
  have HB1 := Lib.hid hB1
  have al := fun (W : World) (h : U8 W) => al03_calls W h
  have AL := Lib.hid al
  have HSL := Lib.hid hsl
  have HTL := Lib.hid htl
  clear qf hsl htl hU hW0 hW1 hB1 hB0 hb1 hb0 hrd al c0 c1 hz0
  go_enter Tryd.func7, Tryd.ntmps7
  go_wp2_with fail
  rw [← HW1.out]
  refine QF.out.mono ?_
  rintro e w' ⟨rfl, rfl⟩
  cases hfw : few3B [l, m] with
  | false =>
    clear hfw
    go_wp2_with fail
    refine (AL.out _ (HU.out.later HB1.out)).mono ?_
    rintro e w2 ⟨rfl, hb2⟩
    go_wp2
    go_ret
    exact ⟨rfl, HB1.out.trans (hb2.mono HB1.out.size)⟩
  | true =>
    have hf : l.length + m.length ≤ 1500 := by
      unfold few3B at hfw
      simpa using hfw
    obtain ⟨S, hS⟩ : ∃ S, S = mkS l := ⟨_, rfl⟩
    have hSS : mkS S = S := by rw [hS]; exact mkS_mkS l
    obtain ⟨k, hk, hxo⟩ := back_is S a
    have hkl := hk.1
    obtain ⟨x, hx⟩ : ∃ x, x = off (cuts S) k := ⟨_, rfl⟩
    have hxb : back S (x : Int) = x := by rw [hx]; exact back_off S hkl
    have hSl := (mk_of hSS).2
    obtain ⟨bs, hbs⟩ : ∃ s : ByteArray, s = ⟨S.toArray⟩ := ⟨_, rfl⟩
    obtain ⟨T, hT⟩ : ∃ T, T = pl m := ⟨_, rfl⟩
    have hTp : Pl T := by rw [hT]; exact pl_pl m
    obtain ⟨bt, hbt⟩ : ∃ s : ByteArray, s = ⟨T.toArray⟩ := ⟨_, rfl⟩
    have q1 := Make_calls l (by omega) s HSL.out a w' (HU.out.later HB1.out)
    rw [← hS, hxo, ← hx, show bufV S x = .agg #[.string bs, .int .i64 (x : Int)] by rw [hbs]] at q1
    have q2 := fun (W : World) (h : U8 W) => Insert_calls S (by omega) bs hbs (x : Int) m (by omega) t HTL.out W h
    have q3 := fun (W : World) (h : U8 W) => Plain_calls m (by omega) t HTL.out W h
    rw [← hT, ← hbt] at q3
    have q4 := fun (W : World) => rCut_calls S (by omega) bs hbs W
    have q5 := fun (W : World) (h : U8 W) => Cut3_calls S (by omega) bs hbs (x : Int) (x : Int) q W h
    obtain ⟨Z, G, R, z, y9, hc1, hzl, hgl, hc2, hc3, hRl⟩ := cut_again hSS hkl q
    rw [← hx] at hc1 hc3
    obtain ⟨bz, hbz⟩ : ∃ s : ByteArray, s = ⟨Z.toArray⟩ := ⟨_, rfl⟩
    obtain ⟨bg, hbg⟩ : ∃ s : ByteArray, s = ⟨G.toArray⟩ := ⟨_, rfl⟩
    obtain ⟨br, hbr⟩ : ∃ s : ByteArray, s = ⟨R.toArray⟩ := ⟨_, rfl⟩
    have q6 := fun (W : World) (h : U8 W) => Insert_calls Z (by omega) bz hbz (z : Int) G (by omega) bg hbg W h
    rw [hc2, show bufV R y9 = .agg #[.string br, .int .i64 (y9 : Int)] by rw [hbr]] at q6
    rw [hc1, show bufV Z z = .agg #[.string bz, .int .i64 (z : Int)] by rw [hbz], ← hbg] at q5
    have q7 := fun (W : World) => rCut_calls Z (by omega) bz hbz W
    have q8 := fun (W : World) => rCut_calls G (by omega) bg hbg W
    have hrs : z = x → br = bs := fun e => by rw [hbr, hbs, hc3 e]
    have Q1 := Lib.hid q1
    have Q2 := Lib.hid q2
    have Q3 := Lib.hid q3
    have Q4 := Lib.hid q4
    have Q5 := Lib.hid q5
    have Q6 := Lib.hid q6
    have Q7 := Lib.hid q7
    have Q8 := Lib.hid q8
    have HRS := Lib.hid hrs
    have HX := Lib.hid hx
    have HSS := Lib.hid hSS
    have HTP := Lib.hid hTp
    have HBT := Lib.hid hbt
    have HBS := Lib.hid hbs
    have HXB := Lib.hid hxb
    have HTE := Lib.hid hT
    have hST : insOk S m = decide (S.length + T.length ≤ 600) := by unfold insOk; rw [HSS.out, ← HTE.out]
    have HST := Lib.hid hST
    have hIT : insT S m (x : Int) = insS S T x := by unfold insT; rw [HSS.out, HXB.out, ← HTE.out]
    have hIA : insA S m (x : Int) = on (insS S T x) ((x : Int) + (T.length : Int)) := by unfold insA; rw [hIT, HSS.out, HXB.out, ← HTE.out]
    have HIT := Lib.hid hIT
    have HIA := Lib.hid hIA
    have hml : S.length ≤ 600 := hSl
    have hTl : T.length ≤ 6000 := by have := pl_len m; rw [← hT] at this; omega
    have hxl : x ≤ S.length := by rw [hx]; exact off_le S k
    clear hfw hs ht hS hxo hx hxb hbs hT hTp hbt hc1 hc2 hc3 hRl hbz hbg hbr q1 q2 q3 q4 q5 q6 q7 q8 hSS hrs hk hST hIT hIA
    go_wp2_with fail
    refine (Q1.out).mono ?_
    rintro e w2 ⟨rfl, b2⟩
    have B2 := HB1.out.trans (b2.mono HB1.out.size)
    clear b2 d0 d1
    go_wp2_with fail
    obtain ⟨w3, e3, h3, b3⟩ := new_buf w2 (.string bs) (.int .i64 x) 25
    rw [e3]
    have B3 := B2.trans (b3.mono B2.size)
    obtain ⟨x0, x1, _, _⟩ := buf_cells h3
    have HX3 := Lib.hid h3
    clear h3 b3 e3
    have hwx : IntKind.i64.wrap ((x : Int) + (bt.size : Int)) = (x : Int) + (bt.size : Int) := IntWalk.i64_in _ (by have := HBT.out; rw [this, str_of]; omega)
    have hbts : bt.size = T.length := by rw [HBT.out, str_of]
    have HBTS := Lib.hid hbts
    have hcS := cuts_len S
    have hcT := cuts_len T
    have hcG := cuts_len G
    have hcZ := cuts_len Z
    have hws : IntKind.i64.wrap (((cuts S).length : Int) - ((cuts G).length : Int)) = ((cuts S).length : Int) - ((cuts G).length : Int) := IntWalk.i64_in _ (by omega)
    clear hbts hzl hgl
    cases hio : insOk S m with
    | false =>
      have q2' := Lib.hid Q2.out
      have hv : insV S m (x : Int) = .tuple #[.agg #[.string bs, .int .i64 (x : Int)], .int .i64 30] := by rw [insV_no hio, HSS.out, HXB.out, bufV, HBS.out]
      rw [hv] at q2'
      clear hio hv
      go_wp2_with fail
      refine (q2'.out w3 (HU.out.later B3)).mono ?_
      rintro e w4 ⟨rfl, b4⟩
      have B4 := B3.trans (b4.mono B3.size)
      have HX4 := Lib.hid (keepB HX3.out b4)
      clear b4 x0 x1
      go_wp2_with fail
      obtain ⟨w5, e5, h5, b5⟩ := new_buf w4 (.string bs) (.int .i64 x) 25
      rw [e5]
      have B5 := B4.trans (b5.mono B4.size)
      have HX5 := Lib.hid (keepB HX4.out b5)
      obtain ⟨x0, x1, _, _⟩ := buf_cells HX5.out
      obtain ⟨y0, y1, _, _⟩ := buf_cells h5
      have HY5 := Lib.hid h5
      clear h5 b5 e5
      go_wp2_with fail
      refine wp_region_held_drew (S := fun w' => w'.cell? ⟨w2.heap.size, 0, none⟩ = some (.string bs) ∧ w'.cell? ⟨w2.heap.size, 1, none⟩ = some (.int .i64 x) ∧ w'.cell? ⟨w4.heap.size, 0, none⟩ = some (.string bs) ∧ w'.cell? ⟨w4.heap.size, 1, none⟩ = some (.int .i64 x)) (by kernel_rfl) ⟨x0, x1, y0, y1⟩ (fun hHeld => ?_)
      have D0 : Below w5.heap.size w5 w5.drew := (Below.refl _ w5).drew
      refine wpAnyH_take (i := 0) (oi := { dst := some 34, op := Op.move (Operand.tmp 9), type := 33, pos := "law.go:82", after := #[], guard := none }) (v := ?_) rfl (by kernel_rfl) (by kernel_rfl) (by kernel_rfl) (fun _ _ _ h => h) (Or.inl ⟨by rfl, ?hy0⟩) (by assumption) ?_
      case hy0 => (intro w hSw; (try dsimp only at hSw); go_simp); (try with_reducible rfl)
      try simp only [Act.put, List.setIfInBounds_toArray, List.set_cons_zero, List.set_cons_succ]
      refine wpAnyH_take (i := 1) (oi := { dst := some 35, op := Op.binOp BinOp.eql 33 (Operand.tmp 34) (Operand.const (Value.int IntKind.i64 0)) 33, type := 4, pos := "law.go:82", after := #[{ on := 0, ground := Ground.data }], guard := none }) (v := ?_) rfl (by kernel_rfl) (by kernel_rfl) (by kernel_rfl) (fun _ _ _ h => h) (Or.inl ⟨by rfl, ?hy1⟩) (by assumption) ?_
      case hy1 => (intro w hSw; (try dsimp only at hSw); go_simp); (try with_reducible rfl)
      try simp only [Act.put, List.setIfInBounds_toArray, List.set_cons_zero, List.set_cons_succ]
      refine wpAnyH_take (i := 2) (oi := { dst := some 36, op := Op.move (Operand.tmp 35), type := 4, pos := "law.go:82", after := #[{ on := 1, ground := Ground.data }], guard := none }) (v := ?_) rfl (by kernel_rfl) (by kernel_rfl) (by kernel_rfl) (fun _ _ _ h => h) (Or.inl ⟨by rfl, ?hy2⟩) (by assumption) ?_
      case hy2 => (intro w hSw; (try dsimp only at hSw); go_simp); (try with_reducible rfl)
      try simp only [Act.put, List.setIfInBounds_toArray, List.set_cons_zero, List.set_cons_succ]
      refine wpAnyH_take (i := 3) (oi := { dst := some 37, op := Op.fieldAddr 25 (Operand.tmp 8) 1, type := 0, pos := "law.go:82", after := #[{ on := 2, ground := Ground.guard }], guard := some (2, true) }) (v := undef) rfl (by kernel_rfl) (by kernel_rfl) (by kernel_rfl) (fun _ _ _ h => h) (Or.inr ⟨by rfl, rfl⟩) (by assumption) ?_
      try simp only [Act.put, List.setIfInBounds_toArray, List.set_cons_zero, List.set_cons_succ]
      refine wpAnyH_take (i := 4) (oi := { dst := some 38, op := Op.load 3 (Operand.tmp 37), type := 3, pos := "law.go:82", after := #[{ on := 3, ground := Ground.data }, { on := 2, ground := Ground.guard }], guard := some (2, true) }) (v := undef) rfl (by kernel_rfl) (by kernel_rfl) (by kernel_rfl) (fun _ _ _ h => h) (Or.inr ⟨by rfl, rfl⟩) (by assumption) ?_
      try simp only [Act.put, List.setIfInBounds_toArray, List.set_cons_zero, List.set_cons_succ]
      refine wpAnyH_take (i := 5) (oi := { dst := some 39, op := Op.fieldAddr 25 (Operand.tmp 7) 1, type := 0, pos := "law.go:82", after := #[{ on := 2, ground := Ground.guard }], guard := some (2, true) }) (v := undef) rfl (by kernel_rfl) (by kernel_rfl) (by kernel_rfl) (fun _ _ _ h => h) (Or.inr ⟨by rfl, rfl⟩) (by assumption) ?_
      try simp only [Act.put, List.setIfInBounds_toArray, List.set_cons_zero, List.set_cons_succ]
      refine wpAnyH_take (i := 6) (oi := { dst := some 40, op := Op.load 3 (Operand.tmp 39), type := 3, pos := "law.go:82", after := #[{ on := 5, ground := Ground.data }, { on := 2, ground := Ground.guard }], guard := some (2, true) }) (v := undef) rfl (by kernel_rfl) (by kernel_rfl) (by kernel_rfl) (fun _ _ _ h => h) (Or.inr ⟨by rfl, rfl⟩) (by assumption) ?_
      try simp only [Act.put, List.setIfInBounds_toArray, List.set_cons_zero, List.set_cons_succ]
      refine wpAnyH_take (i := 7) (oi := { dst := some 41, op := Op.move (Operand.tmp 1), type := 9, pos := "law.go:82", after := #[{ on := 2, ground := Ground.guard }], guard := some (2, true) }) (v := undef) rfl (by kernel_rfl) (by kernel_rfl) (by kernel_rfl) (fun _ _ _ h => h) (Or.inr ⟨by rfl, rfl⟩) (by assumption) ?_
      try simp only [Act.put, List.setIfInBounds_toArray, List.set_cons_zero, List.set_cons_succ]
      refine wpAnyH_take (i := 8) (oi := { dst := some 42, op := Op.call { callee := Callee.value (Operand.func 15), args := #[Operand.tmp 41], argTypes := #[9] }, type := 9, pos := "law.go:82", after := #[{ on := 7, ground := Ground.data }, { on := 2, ground := Ground.chain }, { on := 2, ground := Ground.guard }], guard := some (2, true) }) (v := undef) rfl (by kernel_rfl) (by kernel_rfl) (by kernel_rfl) (fun _ _ _ h => h) (Or.inr ⟨by rfl, rfl⟩) (by assumption) ?_
      try simp only [Act.put, List.setIfInBounds_toArray, List.set_cons_zero, List.set_cons_succ]
      refine wpAnyH_take (i := 9) (oi := { dst := some 43, op := Op.call { callee := Callee.builtin Builtin.len, args := #[Operand.tmp 42], argTypes := #[9] }, type := 3, pos := "law.go:82", after := #[{ on := 8, ground := Ground.data }, { on := 2, ground := Ground.guard }], guard := some (2, true) }) (v := undef) rfl (by kernel_rfl) (by kernel_rfl) (by kernel_rfl) (fun _ _ _ h => h) (Or.inr ⟨by rfl, rfl⟩) (by assumption) ?_
      try simp only [Act.put, List.setIfInBounds_toArray, List.set_cons_zero, List.set_cons_succ]
      refine wpAnyH_take (i := 10) (oi := { dst := some 44, op := Op.binOp BinOp.add 3 (Operand.tmp 40) (Operand.tmp 43) 3, type := 3, pos := "law.go:82", after := #[{ on := 6, ground := Ground.data }, { on := 9, ground := Ground.data }, { on := 2, ground := Ground.guard }], guard := some (2, true) }) (v := undef) rfl (by kernel_rfl) (by kernel_rfl) (by kernel_rfl) (fun _ _ _ h => h) (Or.inr ⟨by rfl, rfl⟩) (by assumption) ?_
      try simp only [Act.put, List.setIfInBounds_toArray, List.set_cons_zero, List.set_cons_succ]
      refine wpAnyH_take (i := 11) (oi := { dst := some 45, op := Op.binOp BinOp.eql 3 (Operand.tmp 38) (Operand.tmp 44) 3, type := 4, pos := "law.go:82", after := #[{ on := 4, ground := Ground.data }, { on := 10, ground := Ground.data }, { on := 2, ground := Ground.guard }], guard := some (2, true) }) (v := undef) rfl (by kernel_rfl) (by kernel_rfl) (by kernel_rfl) (fun _ _ _ h => h) (Or.inr ⟨by rfl, rfl⟩) (by assumption) ?_
      try simp only [Act.put, List.setIfInBounds_toArray, List.set_cons_zero, List.set_cons_succ]
      refine wpAnyH_take (i := 12) (oi := { dst := some 46, op := Op.pick (Operand.tmp 36) (Operand.tmp 45) (Operand.const (Value.bool false)), type := 4, pos := "law.go:82", after := #[{ on := 2, ground := Ground.data }, { on := 11, ground := Ground.data }], guard := none }) (v := ?_) rfl (by kernel_rfl) (by kernel_rfl) (by kernel_rfl) (fun _ _ _ h => h) (Or.inl ⟨by rfl, ?hy12⟩) (by assumption) ?_
      case hy12 => (intro w hSw; (try dsimp only at hSw); go_simp); (try with_reducible rfl)
      try simp only [Act.put, List.setIfInBounds_toArray, List.set_cons_zero, List.set_cons_succ]
      refine wpAnyH_take (i := 13) (oi := { dst := some 47, op := Op.move (Operand.tmp 46), type := 4, pos := "law.go:82", after := #[{ on := 12, ground := Ground.data }, { on := 8, ground := Ground.chain }], guard := none }) (v := ?_) rfl (by kernel_rfl) (by kernel_rfl) (by kernel_rfl) (fun _ _ _ h => h) (Or.inl ⟨by rfl, ?hy13⟩) (by assumption) ?_
      case hy13 => (intro w hSw; (try dsimp only at hSw); go_simp); (try with_reducible rfl)
      try simp only [Act.put, List.setIfInBounds_toArray, List.set_cons_zero, List.set_cons_succ]
      refine wpAnyH_take (i := 14) (oi := { dst := some 48, op := Op.fieldAddr 25 (Operand.tmp 8) 0, type := 0, pos := "law.go:82", after := #[{ on := 13, ground := Ground.guard }], guard := some (13, true) }) (v := undef) rfl (by kernel_rfl) (by kernel_rfl) (by kernel_rfl) (fun _ _ _ h => h) (Or.inr ⟨by rfl, rfl⟩) (by assumption) ?_
      try simp only [Act.put, List.setIfInBounds_toArray, List.set_cons_zero, List.set_cons_succ]
      refine wpAnyH_take (i := 15) (oi := { dst := some 49, op := Op.load 9 (Operand.tmp 48), type := 9, pos := "law.go:82", after := #[{ on := 14, ground := Ground.data }, { on := 13, ground := Ground.guard }], guard := some (13, true) }) (v := undef) rfl (by kernel_rfl) (by kernel_rfl) (by kernel_rfl) (fun _ _ _ h => h) (Or.inr ⟨by rfl, rfl⟩) (by assumption) ?_
      try simp only [Act.put, List.setIfInBounds_toArray, List.set_cons_zero, List.set_cons_succ]
      refine wpAnyH_take (i := 16) (oi := { dst := some 50, op := Op.call { callee := Callee.value (Operand.func 24), args := #[Operand.tmp 49], argTypes := #[9] }, type := 47, pos := "law.go:82", after := #[{ on := 15, ground := Ground.data }, { on := 13, ground := Ground.chain }, { on := 13, ground := Ground.guard }], guard := some (13, true) }) (v := undef) rfl (by kernel_rfl) (by kernel_rfl) (by kernel_rfl) (fun _ _ _ h => h) (Or.inr ⟨by rfl, rfl⟩) (by assumption) ?_
      try simp only [Act.put, List.setIfInBounds_toArray, List.set_cons_zero, List.set_cons_succ]
      refine wpAnyH_take (i := 17) (oi := { dst := some 51, op := Op.call { callee := Callee.builtin Builtin.len, args := #[Operand.tmp 50], argTypes := #[47] }, type := 3, pos := "law.go:82", after := #[{ on := 16, ground := Ground.data }, { on := 13, ground := Ground.guard }], guard := some (13, true) }) (v := undef) rfl (by kernel_rfl) (by kernel_rfl) (by kernel_rfl) (fun _ _ _ h => h) (Or.inr ⟨by rfl, rfl⟩) (by assumption) ?_
      try simp only [Act.put, List.setIfInBounds_toArray, List.set_cons_zero, List.set_cons_succ]
      refine wpAnyH_take (i := 18) (oi := { dst := some 52, op := Op.fieldAddr 25 (Operand.tmp 7) 0, type := 0, pos := "law.go:82", after := #[{ on := 13, ground := Ground.guard }], guard := some (13, true) }) (v := undef) rfl (by kernel_rfl) (by kernel_rfl) (by kernel_rfl) (fun _ _ _ h => h) (Or.inr ⟨by rfl, rfl⟩) (by assumption) ?_
      try simp only [Act.put, List.setIfInBounds_toArray, List.set_cons_zero, List.set_cons_succ]
      refine wpAnyH_take (i := 19) (oi := { dst := some 53, op := Op.load 9 (Operand.tmp 52), type := 9, pos := "law.go:82", after := #[{ on := 18, ground := Ground.data }, { on := 13, ground := Ground.guard }], guard := some (13, true) }) (v := undef) rfl (by kernel_rfl) (by kernel_rfl) (by kernel_rfl) (fun _ _ _ h => h) (Or.inr ⟨by rfl, rfl⟩) (by assumption) ?_
      try simp only [Act.put, List.setIfInBounds_toArray, List.set_cons_zero, List.set_cons_succ]
      refine wpAnyH_take (i := 20) (oi := { dst := some 54, op := Op.call { callee := Callee.value (Operand.func 24), args := #[Operand.tmp 53], argTypes := #[9] }, type := 47, pos := "law.go:82", after := #[{ on := 19, ground := Ground.data }, { on := 16, ground := Ground.chain }, { on := 13, ground := Ground.guard }], guard := some (13, true) }) (v := undef) rfl (by kernel_rfl) (by kernel_rfl) (by kernel_rfl) (fun _ _ _ h => h) (Or.inr ⟨by rfl, rfl⟩) (by assumption) ?_
      try simp only [Act.put, List.setIfInBounds_toArray, List.set_cons_zero, List.set_cons_succ]
      refine wpAnyH_take (i := 21) (oi := { dst := some 55, op := Op.call { callee := Callee.builtin Builtin.len, args := #[Operand.tmp 54], argTypes := #[47] }, type := 3, pos := "law.go:82", after := #[{ on := 20, ground := Ground.data }, { on := 13, ground := Ground.guard }], guard := some (13, true) }) (v := undef) rfl (by kernel_rfl) (by kernel_rfl) (by kernel_rfl) (fun _ _ _ h => h) (Or.inr ⟨by rfl, rfl⟩) (by assumption) ?_
      try simp only [Act.put, List.setIfInBounds_toArray, List.set_cons_zero, List.set_cons_succ]
      refine wpAnyH_take (i := 22) (oi := { dst := some 56, op := Op.move (Operand.tmp 1), type := 9, pos := "law.go:82", after := #[{ on := 13, ground := Ground.guard }], guard := some (13, true) }) (v := undef) rfl (by kernel_rfl) (by kernel_rfl) (by kernel_rfl) (fun _ _ _ h => h) (Or.inr ⟨by rfl, rfl⟩) (by assumption) ?_
      try simp only [Act.put, List.setIfInBounds_toArray, List.set_cons_zero, List.set_cons_succ]
      refine wpAnyH_take (i := 23) (oi := { dst := some 57, op := Op.call { callee := Callee.value (Operand.func 15), args := #[Operand.tmp 56], argTypes := #[9] }, type := 9, pos := "law.go:82", after := #[{ on := 22, ground := Ground.data }, { on := 20, ground := Ground.chain }, { on := 13, ground := Ground.guard }], guard := some (13, true) }) (v := undef) rfl (by kernel_rfl) (by kernel_rfl) (by kernel_rfl) (fun _ _ _ h => h) (Or.inr ⟨by rfl, rfl⟩) (by assumption) ?_
      try simp only [Act.put, List.setIfInBounds_toArray, List.set_cons_zero, List.set_cons_succ]
      refine wpAnyH_take (i := 24) (oi := { dst := some 58, op := Op.call { callee := Callee.value (Operand.func 24), args := #[Operand.tmp 57], argTypes := #[9] }, type := 47, pos := "law.go:82", after := #[{ on := 23, ground := Ground.data }, { on := 23, ground := Ground.chain }, { on := 13, ground := Ground.guard }], guard := some (13, true) }) (v := undef) rfl (by kernel_rfl) (by kernel_rfl) (by kernel_rfl) (fun _ _ _ h => h) (Or.inr ⟨by rfl, rfl⟩) (by assumption) ?_
      try simp only [Act.put, List.setIfInBounds_toArray, List.set_cons_zero, List.set_cons_succ]
      refine wpAnyH_take (i := 25) (oi := { dst := some 59, op := Op.call { callee := Callee.builtin Builtin.len, args := #[Operand.tmp 58], argTypes := #[47] }, type := 3, pos := "law.go:82", after := #[{ on := 24, ground := Ground.data }, { on := 13, ground := Ground.guard }], guard := some (13, true) }) (v := undef) rfl (by kernel_rfl) (by kernel_rfl) (by kernel_rfl) (fun _ _ _ h => h) (Or.inr ⟨by rfl, rfl⟩) (by assumption) ?_
      try simp only [Act.put, List.setIfInBounds_toArray, List.set_cons_zero, List.set_cons_succ]
      refine wpAnyH_take (i := 26) (oi := { dst := some 60, op := Op.binOp BinOp.add 3 (Operand.tmp 55) (Operand.tmp 59) 3, type := 3, pos := "law.go:82", after := #[{ on := 21, ground := Ground.data }, { on := 25, ground := Ground.data }, { on := 13, ground := Ground.guard }], guard := some (13, true) }) (v := undef) rfl (by kernel_rfl) (by kernel_rfl) (by kernel_rfl) (fun _ _ _ h => h) (Or.inr ⟨by rfl, rfl⟩) (by assumption) ?_
      try simp only [Act.put, List.setIfInBounds_toArray, List.set_cons_zero, List.set_cons_succ]
      refine wpAnyH_take (i := 27) (oi := { dst := some 61, op := Op.binOp BinOp.eql 3 (Operand.tmp 51) (Operand.tmp 60) 3, type := 4, pos := "law.go:82", after := #[{ on := 17, ground := Ground.data }, { on := 26, ground := Ground.data }, { on := 13, ground := Ground.guard }], guard := some (13, true) }) (v := undef) rfl (by kernel_rfl) (by kernel_rfl) (by kernel_rfl) (fun _ _ _ h => h) (Or.inr ⟨by rfl, rfl⟩) (by assumption) ?_
      try simp only [Act.put, List.setIfInBounds_toArray, List.set_cons_zero, List.set_cons_succ]
      refine wpAnyH_take (i := 28) (oi := { dst := some 62, op := Op.pick (Operand.tmp 47) (Operand.tmp 61) (Operand.const (Value.bool false)), type := 4, pos := "law.go:82", after := #[{ on := 13, ground := Ground.data }, { on := 27, ground := Ground.data }], guard := none }) (v := ?_) rfl (by kernel_rfl) (by kernel_rfl) (by kernel_rfl) (fun _ _ _ h => h) (Or.inl ⟨by rfl, ?hy28⟩) (by assumption) ?_
      case hy28 => (intro w hSw; (try dsimp only at hSw); go_simp); (try with_reducible rfl)
      try simp only [Act.put, List.setIfInBounds_toArray, List.set_cons_zero, List.set_cons_succ]
      refine wpAnyH_done (by kernel_rfl) ?_ _
      clear x0 x1 y0 y1
      obtain ⟨v9, hv9⟩ : ∃ W, W = w5.drew := ⟨_, rfl⟩
      have D9' := D0
      rw [← hv9] at D9' ⊢
      clear hv9
      have B9 := B5.trans (D9'.mono B5.size)
      have HX9 := Lib.hid (keepB HX5.out D9')
      have HY9 := Lib.hid (keepB HY5.out D9')
      obtain ⟨x0, x1, _, _⟩ := buf_cells HX9.out
      go_wp2_with fail
      refine (Q5.out v9 (HU.out.later B9)).mono ?_
      rintro e wa ⟨rfl, ba⟩
      have BA := B9.trans (ba.mono B9.size)
      have HXA := Lib.hid (keepB HX9.out ba)
      clear ba x0 x1
      go_wp2_with fail
      obtain ⟨wb, eb, hb, bb⟩ := new_buf wa (.string bz) (.int .i64 z) 25
      rw [eb]
      have BB := BA.trans (bb.mono BA.size)
      have HXB9 := Lib.hid (keepB HXA.out bb)
      obtain ⟨x0, x1, _, _⟩ := buf_cells HXB9.out
      obtain ⟨z0, z1, _, _⟩ := buf_cells hb
      have HZB := Lib.hid hb
      clear hb bb eb
      go_wp2_with fail
      go_region_held3 (fun w' => w'.cell? ⟨w2.heap.size, 0, none⟩ = some (.string bs) ∧ w'.cell? ⟨wa.heap.size, 0, none⟩ = some (.string bz)) (first | exact ⟨x0, z0⟩ | exact ⟨p1, r1⟩ | exact ⟨p2, r2⟩ | exact ⟨p3, r3⟩) (first
        | (go_at_call 24; (with_reducible refine (Q7.out wb.drew).mono ?_); rintro e wc ⟨v9, rfl, hv9, bc⟩; obtain ⟨A9, c9, rfl, _⟩ := hv9.rd; clear hv9; have DC : Below wb.heap.size wb wc := ((Below.refl _ wb).drew).trans bc; obtain ⟨p1, _, _, _⟩ := buf_cells (keepB HXB9.out DC); obtain ⟨r1, _, _, _⟩ := buf_cells (keepB HZB.out DC))
        | (go_at_call 24; (with_reducible refine (Q4.out wc).mono ?_); rintro e wd ⟨v9, rfl, hv9, bd⟩; obtain ⟨A9, c9, rfl, _⟩ := hv9.rd; clear hv9; have DD : Below wb.heap.size wb wd := DC.trans (bd.mono DC.size); obtain ⟨p2, _, _, _⟩ := buf_cells (keepB HXB9.out DD); obtain ⟨r2, _, _, _⟩ := buf_cells (keepB HZB.out DD))
        | (go_at_call 24; (with_reducible refine (Q8.out wd).mono ?_); rintro e we ⟨v9, rfl, hv9, be⟩; obtain ⟨A9, c9, rfl, _⟩ := hv9.rd; clear hv9; have DE : Below wb.heap.size wb we := DD.trans (be.mono DD.size); obtain ⟨p3, _, _, _⟩ := buf_cells (keepB HXB9.out DE); obtain ⟨r3, _, _, _⟩ := buf_cells (keepB HZB.out DE)))
      have BE := BB.trans (DE.mono BB.size)
      have HXE := Lib.hid (keepB HXB9.out DE)
      have HZE := Lib.hid (keepB HZB.out DE)
      clear x0 x1 z0 z1
      by_cases hcnt : ((cuts Z).length : Int) = ((cuts S).length : Int) - ((cuts G).length : Int)
      rotate_left
      · have hcb : (((cuts Z).length : Int) != ((cuts S).length : Int) - ((cuts G).length : Int)) = true := by rw [bne_iff_ne]; exact hcnt
        clear hcnt
        go_wp2_with fail
        refine (AL.out we (HU.out.later BE)).mono ?_
        rintro e wf ⟨rfl, bf⟩
        go_wp2
        go_ret
        exact ⟨rfl, BE.trans (bf.mono BE.size)⟩
      · have hcb : (((cuts Z).length : Int) != ((cuts S).length : Int) - ((cuts G).length : Int)) = false := by rw [bne_eq_false_iff_eq]; exact hcnt
        clear hcnt
        obtain ⟨x0, x1, _, _⟩ := buf_cells HXE.out
        obtain ⟨z0, z1, _, _⟩ := buf_cells HZE.out
        go_wp2_with fail
        refine (Q6.out we (HU.out.later BE)).mono ?_
        rintro e wf ⟨rfl, bf⟩
        have BF := BE.trans (bf.mono BE.size)
        have HXF := Lib.hid (keepB HXE.out bf)
        have HZF := Lib.hid (keepB HZE.out bf)
        clear bf x0 x1 z0 z1
        go_wp2_with fail
        obtain ⟨wg, eg, hg, bg9⟩ := new_buf wf (.string br) (.int .i64 y9) 25
        rw [eg]
        have BG := BF.trans (bg9.mono BF.size)
        have HXG := Lib.hid (keepB HXF.out bg9)
        have HZG := Lib.hid (keepB HZF.out bg9)
        have HRG := Lib.hid hg
        clear hg bg9 eg
        refine (AL.out wg (HU.out.later BG)).mono ?_
        rintro e wh ⟨rfl, bh⟩
        have BH := BG.trans (bh.mono BG.size)
        obtain ⟨x0, x1, _, _⟩ := buf_cells (keepB HXG.out bh)
        obtain ⟨z0, z1, _, _⟩ := buf_cells (keepB HZG.out bh)
        obtain ⟨g0, g1, _, _⟩ := buf_cells (keepB HRG.out bh)
        clear bh
        by_cases hzx : z = x
        · have hn : ((z : Int) != (x : Int)) = false := by rw [bne_eq_false_iff_eq, hzx]
          have hbe : (br.toList == bs.toList) = true := by rw [HRS.out hzx]; simp
          clear hzx
          go_wp2
          go_ret
          exact ⟨rfl, BH⟩
        · have hn : ((z : Int) != (x : Int)) = true := by rw [bne_iff_ne]; omega
          clear hzx
          go_wp2
          go_ret
          exact ⟨rfl, BH⟩
    | true =>
      obtain ⟨Y, hY⟩ : ∃ Y, Y = insS S T x := ⟨_, rfl⟩
      obtain ⟨y, hy⟩ : ∃ y, y = on Y ((x : Int) + (T.length : Int)) := ⟨_, rfl⟩
      obtain ⟨by9, hby9⟩ : ∃ s : ByteArray, s = ⟨Y.toArray⟩ := ⟨_, rfl⟩
      have hYl : Y.length = S.length + T.length := by rw [hY, ins_len]
      have hST2 : S.length + T.length ≤ 600 := by have := HST.out; rw [hio] at this; exact of_decide_eq_true this.symm
      have q2' := Lib.hid Q2.out
      have hv : insV S m (x : Int) = .tuple #[.agg #[.string by9, .int .i64 (y : Int)], .int .i64 0] := by rw [insV_yes hio, HIA.out, HIT.out, ← hY, bufV, hby9, ← hy]
      rw [hv] at q2'
      have qy := fun (W : World) => rCut_calls Y (by omega) by9 hby9 W
      have qt := fun (W : World) => rCut_calls T (by omega) bt HBT.out W
      have QY := Lib.hid qy
      have QT := Lib.hid qt
      have qc := fun (W : World) (h : U8 W) => Cut3_calls Y (by omega) by9 hby9 (y : Int) (x : Int) (y : Int) W h
      have hagain : y = x + T.length → (cuts Y).length = (cuts S).length + (cuts T).length → cutV Y (y : Int) (x : Int) (y : Int) = .tuple #[.agg #[.string bs, .int .i64 (x : Int)], .string bt] := by
        intro h1 h2
        have := ins_again HSS.out HTP.out hST2 hkl (by rw [← HX.out, ← hY, ← hy]; exact h1) (by rw [← HX.out, ← hY]; exact h2)
        rw [← HX.out, ← hY, ← h1, bufV, ← HBS.out, ← HBT.out] at this
        exact this
      have hcY := cuts_len Y
      have HAG := Lib.hid hagain
      have QC := Lib.hid qc
      have hwc : IntKind.i64.wrap (((cuts S).length : Int) + ((cuts T).length : Int)) = ((cuts S).length : Int) + ((cuts T).length : Int) := IntWalk.i64_in _ (by omega)
      clear hio hv hY hy hby9 qy qt qc hagain hST2
      by_cases hyx : y = x + T.length
      rotate_left
      · have i1 : ((y : Int) == (x : Int) + (bt.size : Int)) = false := by rw [beq_eq_false_iff_ne]; have := HBTS.out; omega
        clear hyx
        go_wp2_with fail
        refine (q2'.out w3 (HU.out.later B3)).mono ?_
        rintro e w4 ⟨rfl, b4⟩
        have B4 := B3.trans (b4.mono B3.size)
        have HX4 := Lib.hid (keepB HX3.out b4)
        clear b4 x0 x1
        go_wp2_with fail
        obtain ⟨w5, e5, h5, b5⟩ := new_buf w4 (.string by9) (.int .i64 y) 25
        rw [e5]
        have B5 := B4.trans (b5.mono B4.size)
        have HX5 := Lib.hid (keepB HX4.out b5)
        obtain ⟨x0, x1, _, _⟩ := buf_cells HX5.out
        obtain ⟨y0, y1, _, _⟩ := buf_cells h5
        have HY5 := Lib.hid h5
        clear h5 b5 e5
        go_wp2_with fail
        refine wp_region_held_drew (S := fun w' => w'.cell? ⟨w2.heap.size, 0, none⟩ = some (.string bs) ∧ w'.cell? ⟨w2.heap.size, 1, none⟩ = some (.int .i64 x) ∧ w'.cell? ⟨w4.heap.size, 0, none⟩ = some (.string by9) ∧ w'.cell? ⟨w4.heap.size, 1, none⟩ = some (.int .i64 y)) (by kernel_rfl) ⟨x0, x1, y0, y1⟩ (fun hHeld => ?_)
        have D0 : Below w5.heap.size w5 w5.drew := (Below.refl _ w5).drew
        refine wpAnyH_take (i := 0) (oi := { dst := some 34, op := Op.move (Operand.tmp 9), type := 33, pos := "law.go:82", after := #[], guard := none }) (v := ?_) rfl (by kernel_rfl) (by kernel_rfl) (by kernel_rfl) (fun _ _ _ h => h) (Or.inl ⟨by rfl, ?hy0⟩) (by assumption) ?_
        case hy0 => (intro w hSw; (try dsimp only at hSw); go_simp); (try with_reducible rfl)
        try simp only [Act.put, List.setIfInBounds_toArray, List.set_cons_zero, List.set_cons_succ]
        refine wpAnyH_take (i := 1) (oi := { dst := some 35, op := Op.binOp BinOp.eql 33 (Operand.tmp 34) (Operand.const (Value.int IntKind.i64 0)) 33, type := 4, pos := "law.go:82", after := #[{ on := 0, ground := Ground.data }], guard := none }) (v := ?_) rfl (by kernel_rfl) (by kernel_rfl) (by kernel_rfl) (fun _ _ _ h => h) (Or.inl ⟨by rfl, ?hy1⟩) (by assumption) ?_
        case hy1 => (intro w hSw; (try dsimp only at hSw); go_simp); (try with_reducible rfl)
        try simp only [Act.put, List.setIfInBounds_toArray, List.set_cons_zero, List.set_cons_succ]
        refine wpAnyH_take (i := 2) (oi := { dst := some 36, op := Op.move (Operand.tmp 35), type := 4, pos := "law.go:82", after := #[{ on := 1, ground := Ground.data }], guard := none }) (v := ?_) rfl (by kernel_rfl) (by kernel_rfl) (by kernel_rfl) (fun _ _ _ h => h) (Or.inl ⟨by rfl, ?hy2⟩) (by assumption) ?_
        case hy2 => (intro w hSw; (try dsimp only at hSw); go_simp); (try with_reducible rfl)
        try simp only [Act.put, List.setIfInBounds_toArray, List.set_cons_zero, List.set_cons_succ]
        refine wpAnyH_take (i := 3) (oi := { dst := some 37, op := Op.fieldAddr 25 (Operand.tmp 8) 1, type := 0, pos := "law.go:82", after := #[{ on := 2, ground := Ground.guard }], guard := some (2, true) }) (v := ?_) rfl (by kernel_rfl) (by kernel_rfl) (by kernel_rfl) (fun _ _ _ h => h) (Or.inl ⟨by rfl, ?hy3⟩) (by assumption) ?_
        case hy3 => (intro w hSw; (try dsimp only at hSw); go_simp); (try with_reducible rfl)
        try simp only [Act.put, List.setIfInBounds_toArray, List.set_cons_zero, List.set_cons_succ]
        refine wpAnyH_take (i := 4) (oi := { dst := some 38, op := Op.load 3 (Operand.tmp 37), type := 3, pos := "law.go:82", after := #[{ on := 3, ground := Ground.data }, { on := 2, ground := Ground.guard }], guard := some (2, true) }) (v := ?_) rfl (by kernel_rfl) (by kernel_rfl) (by kernel_rfl) (fun _ _ _ h => h) (Or.inl ⟨by rfl, ?hy4⟩) (by assumption) ?_
        case hy4 => (intro w hSw; (try dsimp only at hSw); go_simp); (try with_reducible rfl)
        try simp only [Act.put, List.setIfInBounds_toArray, List.set_cons_zero, List.set_cons_succ]
        refine wpAnyH_take (i := 5) (oi := { dst := some 39, op := Op.fieldAddr 25 (Operand.tmp 7) 1, type := 0, pos := "law.go:82", after := #[{ on := 2, ground := Ground.guard }], guard := some (2, true) }) (v := ?_) rfl (by kernel_rfl) (by kernel_rfl) (by kernel_rfl) (fun _ _ _ h => h) (Or.inl ⟨by rfl, ?hy5⟩) (by assumption) ?_
        case hy5 => (intro w hSw; (try dsimp only at hSw); go_simp); (try with_reducible rfl)
        try simp only [Act.put, List.setIfInBounds_toArray, List.set_cons_zero, List.set_cons_succ]
        refine wpAnyH_take (i := 6) (oi := { dst := some 40, op := Op.load 3 (Operand.tmp 39), type := 3, pos := "law.go:82", after := #[{ on := 5, ground := Ground.data }, { on := 2, ground := Ground.guard }], guard := some (2, true) }) (v := ?_) rfl (by kernel_rfl) (by kernel_rfl) (by kernel_rfl) (fun _ _ _ h => h) (Or.inl ⟨by rfl, ?hy6⟩) (by assumption) ?_
        case hy6 => (intro w hSw; (try dsimp only at hSw); go_simp); (try with_reducible rfl)
        try simp only [Act.put, List.setIfInBounds_toArray, List.set_cons_zero, List.set_cons_succ]
        refine wpAnyH_take (i := 7) (oi := { dst := some 41, op := Op.move (Operand.tmp 1), type := 9, pos := "law.go:82", after := #[{ on := 2, ground := Ground.guard }], guard := some (2, true) }) (v := ?_) rfl (by kernel_rfl) (by kernel_rfl) (by kernel_rfl) (fun _ _ _ h => h) (Or.inl ⟨by rfl, ?hy7⟩) (by assumption) ?_
        case hy7 => (intro w hSw; (try dsimp only at hSw); go_simp); (try with_reducible rfl)
        try simp only [Act.put, List.setIfInBounds_toArray, List.set_cons_zero, List.set_cons_succ]
        refine wpAnyH_ready (rs := [8]) (by kernel_rfl) (by simp) ?_
        refine AllReadyH.cons (o := { dst := some 42, op := Op.call { callee := Callee.value (Operand.func 15), args := #[Operand.tmp 41], argTypes := #[9] }, type := 9, pos := "law.go:82", after := #[{ on := 7, ground := Ground.data }, { on := 2, ground := Ground.chain }, { on := 2, ground := Ground.guard }], guard := some (2, true) }) rfl (fun K hK => ?_) AllReadyH.nil
        go_simp
        go_at_call 15
        with_reducible refine (Q3.out w5.drew (HU.out.later (B5.trans (D0.mono B5.size)))).mono ?_
        rintro e w6 ⟨rfl, b6⟩
        have D6 : Below w5.heap.size w5 w6 := D0.trans (b6.mono D0.size)
        obtain ⟨p6, q6, _, _⟩ := buf_cells (keepB HX5.out D6)
        obtain ⟨r6, s6, _, _⟩ := buf_cells (keepB HY5.out D6)
        refine hK.out _ _ ⟨p6, q6, r6, s6⟩ (fun hHeld => ?_)
        clear hK K
        try simp only [Act.put, List.setIfInBounds_toArray, List.set_cons_zero, List.set_cons_succ]
        refine wpAnyH_take (i := 9) (oi := { dst := some 43, op := Op.call { callee := Callee.builtin Builtin.len, args := #[Operand.tmp 42], argTypes := #[9] }, type := 3, pos := "law.go:82", after := #[{ on := 8, ground := Ground.data }, { on := 2, ground := Ground.guard }], guard := some (2, true) }) (v := ?_) rfl (by kernel_rfl) (by kernel_rfl) (by kernel_rfl) (fun _ _ _ h => h) (Or.inl ⟨by rfl, ?hy9⟩) (by assumption) ?_
        case hy9 => (intro w hSw; (try dsimp only at hSw); go_simp); (try with_reducible rfl)
        try simp only [Act.put, List.setIfInBounds_toArray, List.set_cons_zero, List.set_cons_succ]
        refine wpAnyH_take (i := 10) (oi := { dst := some 44, op := Op.binOp BinOp.add 3 (Operand.tmp 40) (Operand.tmp 43) 3, type := 3, pos := "law.go:82", after := #[{ on := 6, ground := Ground.data }, { on := 9, ground := Ground.data }, { on := 2, ground := Ground.guard }], guard := some (2, true) }) (v := ?_) rfl (by kernel_rfl) (by kernel_rfl) (by kernel_rfl) (fun _ _ _ h => h) (Or.inl ⟨by rfl, ?hy10⟩) (by assumption) ?_
        case hy10 => (intro w hSw; (try dsimp only at hSw); go_simp); (try with_reducible rfl)
        try simp only [Act.put, List.setIfInBounds_toArray, List.set_cons_zero, List.set_cons_succ]
        refine wpAnyH_take (i := 11) (oi := { dst := some 45, op := Op.binOp BinOp.eql 3 (Operand.tmp 38) (Operand.tmp 44) 3, type := 4, pos := "law.go:82", after := #[{ on := 4, ground := Ground.data }, { on := 10, ground := Ground.data }, { on := 2, ground := Ground.guard }], guard := some (2, true) }) (v := ?_) rfl (by kernel_rfl) (by kernel_rfl) (by kernel_rfl) (fun _ _ _ h => h) (Or.inl ⟨by rfl, ?hy11⟩) (by assumption) ?_
        case hy11 => (intro w hSw; (try dsimp only at hSw); go_simp); (try with_reducible rfl)
        try simp only [Act.put, List.setIfInBounds_toArray, List.set_cons_zero, List.set_cons_succ]
        refine wpAnyH_take (i := 12) (oi := { dst := some 46, op := Op.pick (Operand.tmp 36) (Operand.tmp 45) (Operand.const (Value.bool false)), type := 4, pos := "law.go:82", after := #[{ on := 2, ground := Ground.data }, { on := 11, ground := Ground.data }], guard := none }) (v := ?_) rfl (by kernel_rfl) (by kernel_rfl) (by kernel_rfl) (fun _ _ _ h => h) (Or.inl ⟨by rfl, ?hy12⟩) (by assumption) ?_
        case hy12 => (intro w hSw; (try dsimp only at hSw); go_simp); (try with_reducible rfl)
        try simp only [Act.put, List.setIfInBounds_toArray, List.set_cons_zero, List.set_cons_succ]
        refine wpAnyH_take (i := 13) (oi := { dst := some 47, op := Op.move (Operand.tmp 46), type := 4, pos := "law.go:82", after := #[{ on := 12, ground := Ground.data }, { on := 8, ground := Ground.chain }], guard := none }) (v := ?_) rfl (by kernel_rfl) (by kernel_rfl) (by kernel_rfl) (fun _ _ _ h => h) (Or.inl ⟨by rfl, ?hy13⟩) (by assumption) ?_
        case hy13 => (intro w hSw; (try dsimp only at hSw); go_simp); (try with_reducible rfl)
        try simp only [Act.put, List.setIfInBounds_toArray, List.set_cons_zero, List.set_cons_succ]
        refine wpAnyH_take (i := 14) (oi := { dst := some 48, op := Op.fieldAddr 25 (Operand.tmp 8) 0, type := 0, pos := "law.go:82", after := #[{ on := 13, ground := Ground.guard }], guard := some (13, true) }) (v := undef) rfl (by kernel_rfl) (by kernel_rfl) (by kernel_rfl) (fun _ _ _ h => h) (Or.inr ⟨by rfl, rfl⟩) (by assumption) ?_
        try simp only [Act.put, List.setIfInBounds_toArray, List.set_cons_zero, List.set_cons_succ]
        refine wpAnyH_take (i := 15) (oi := { dst := some 49, op := Op.load 9 (Operand.tmp 48), type := 9, pos := "law.go:82", after := #[{ on := 14, ground := Ground.data }, { on := 13, ground := Ground.guard }], guard := some (13, true) }) (v := undef) rfl (by kernel_rfl) (by kernel_rfl) (by kernel_rfl) (fun _ _ _ h => h) (Or.inr ⟨by rfl, rfl⟩) (by assumption) ?_
        try simp only [Act.put, List.setIfInBounds_toArray, List.set_cons_zero, List.set_cons_succ]
        refine wpAnyH_take (i := 16) (oi := { dst := some 50, op := Op.call { callee := Callee.value (Operand.func 24), args := #[Operand.tmp 49], argTypes := #[9] }, type := 47, pos := "law.go:82", after := #[{ on := 15, ground := Ground.data }, { on := 13, ground := Ground.chain }, { on := 13, ground := Ground.guard }], guard := some (13, true) }) (v := undef) rfl (by kernel_rfl) (by kernel_rfl) (by kernel_rfl) (fun _ _ _ h => h) (Or.inr ⟨by rfl, rfl⟩) (by assumption) ?_
        try simp only [Act.put, List.setIfInBounds_toArray, List.set_cons_zero, List.set_cons_succ]
        refine wpAnyH_take (i := 17) (oi := { dst := some 51, op := Op.call { callee := Callee.builtin Builtin.len, args := #[Operand.tmp 50], argTypes := #[47] }, type := 3, pos := "law.go:82", after := #[{ on := 16, ground := Ground.data }, { on := 13, ground := Ground.guard }], guard := some (13, true) }) (v := undef) rfl (by kernel_rfl) (by kernel_rfl) (by kernel_rfl) (fun _ _ _ h => h) (Or.inr ⟨by rfl, rfl⟩) (by assumption) ?_
        try simp only [Act.put, List.setIfInBounds_toArray, List.set_cons_zero, List.set_cons_succ]
        refine wpAnyH_take (i := 18) (oi := { dst := some 52, op := Op.fieldAddr 25 (Operand.tmp 7) 0, type := 0, pos := "law.go:82", after := #[{ on := 13, ground := Ground.guard }], guard := some (13, true) }) (v := undef) rfl (by kernel_rfl) (by kernel_rfl) (by kernel_rfl) (fun _ _ _ h => h) (Or.inr ⟨by rfl, rfl⟩) (by assumption) ?_
        try simp only [Act.put, List.setIfInBounds_toArray, List.set_cons_zero, List.set_cons_succ]
        refine wpAnyH_take (i := 19) (oi := { dst := some 53, op := Op.load 9 (Operand.tmp 52), type := 9, pos := "law.go:82", after := #[{ on := 18, ground := Ground.data }, { on := 13, ground := Ground.guard }], guard := some (13, true) }) (v := undef) rfl (by kernel_rfl) (by kernel_rfl) (by kernel_rfl) (fun _ _ _ h => h) (Or.inr ⟨by rfl, rfl⟩) (by assumption) ?_
        try simp only [Act.put, List.setIfInBounds_toArray, List.set_cons_zero, List.set_cons_succ]
        refine wpAnyH_take (i := 20) (oi := { dst := some 54, op := Op.call { callee := Callee.value (Operand.func 24), args := #[Operand.tmp 53], argTypes := #[9] }, type := 47, pos := "law.go:82", after := #[{ on := 19, ground := Ground.data }, { on := 16, ground := Ground.chain }, { on := 13, ground := Ground.guard }], guard := some (13, true) }) (v := undef) rfl (by kernel_rfl) (by kernel_rfl) (by kernel_rfl) (fun _ _ _ h => h) (Or.inr ⟨by rfl, rfl⟩) (by assumption) ?_
        try simp only [Act.put, List.setIfInBounds_toArray, List.set_cons_zero, List.set_cons_succ]
        refine wpAnyH_take (i := 21) (oi := { dst := some 55, op := Op.call { callee := Callee.builtin Builtin.len, args := #[Operand.tmp 54], argTypes := #[47] }, type := 3, pos := "law.go:82", after := #[{ on := 20, ground := Ground.data }, { on := 13, ground := Ground.guard }], guard := some (13, true) }) (v := undef) rfl (by kernel_rfl) (by kernel_rfl) (by kernel_rfl) (fun _ _ _ h => h) (Or.inr ⟨by rfl, rfl⟩) (by assumption) ?_
        try simp only [Act.put, List.setIfInBounds_toArray, List.set_cons_zero, List.set_cons_succ]
        refine wpAnyH_take (i := 22) (oi := { dst := some 56, op := Op.move (Operand.tmp 1), type := 9, pos := "law.go:82", after := #[{ on := 13, ground := Ground.guard }], guard := some (13, true) }) (v := undef) rfl (by kernel_rfl) (by kernel_rfl) (by kernel_rfl) (fun _ _ _ h => h) (Or.inr ⟨by rfl, rfl⟩) (by assumption) ?_
        try simp only [Act.put, List.setIfInBounds_toArray, List.set_cons_zero, List.set_cons_succ]
        refine wpAnyH_take (i := 23) (oi := { dst := some 57, op := Op.call { callee := Callee.value (Operand.func 15), args := #[Operand.tmp 56], argTypes := #[9] }, type := 9, pos := "law.go:82", after := #[{ on := 22, ground := Ground.data }, { on := 20, ground := Ground.chain }, { on := 13, ground := Ground.guard }], guard := some (13, true) }) (v := undef) rfl (by kernel_rfl) (by kernel_rfl) (by kernel_rfl) (fun _ _ _ h => h) (Or.inr ⟨by rfl, rfl⟩) (by assumption) ?_
        try simp only [Act.put, List.setIfInBounds_toArray, List.set_cons_zero, List.set_cons_succ]
        refine wpAnyH_take (i := 24) (oi := { dst := some 58, op := Op.call { callee := Callee.value (Operand.func 24), args := #[Operand.tmp 57], argTypes := #[9] }, type := 47, pos := "law.go:82", after := #[{ on := 23, ground := Ground.data }, { on := 23, ground := Ground.chain }, { on := 13, ground := Ground.guard }], guard := some (13, true) }) (v := undef) rfl (by kernel_rfl) (by kernel_rfl) (by kernel_rfl) (fun _ _ _ h => h) (Or.inr ⟨by rfl, rfl⟩) (by assumption) ?_
        try simp only [Act.put, List.setIfInBounds_toArray, List.set_cons_zero, List.set_cons_succ]
        refine wpAnyH_take (i := 25) (oi := { dst := some 59, op := Op.call { callee := Callee.builtin Builtin.len, args := #[Operand.tmp 58], argTypes := #[47] }, type := 3, pos := "law.go:82", after := #[{ on := 24, ground := Ground.data }, { on := 13, ground := Ground.guard }], guard := some (13, true) }) (v := undef) rfl (by kernel_rfl) (by kernel_rfl) (by kernel_rfl) (fun _ _ _ h => h) (Or.inr ⟨by rfl, rfl⟩) (by assumption) ?_
        try simp only [Act.put, List.setIfInBounds_toArray, List.set_cons_zero, List.set_cons_succ]
        refine wpAnyH_take (i := 26) (oi := { dst := some 60, op := Op.binOp BinOp.add 3 (Operand.tmp 55) (Operand.tmp 59) 3, type := 3, pos := "law.go:82", after := #[{ on := 21, ground := Ground.data }, { on := 25, ground := Ground.data }, { on := 13, ground := Ground.guard }], guard := some (13, true) }) (v := undef) rfl (by kernel_rfl) (by kernel_rfl) (by kernel_rfl) (fun _ _ _ h => h) (Or.inr ⟨by rfl, rfl⟩) (by assumption) ?_
        try simp only [Act.put, List.setIfInBounds_toArray, List.set_cons_zero, List.set_cons_succ]
        refine wpAnyH_take (i := 27) (oi := { dst := some 61, op := Op.binOp BinOp.eql 3 (Operand.tmp 51) (Operand.tmp 60) 3, type := 4, pos := "law.go:82", after := #[{ on := 17, ground := Ground.data }, { on := 26, ground := Ground.data }, { on := 13, ground := Ground.guard }], guard := some (13, true) }) (v := undef) rfl (by kernel_rfl) (by kernel_rfl) (by kernel_rfl) (fun _ _ _ h => h) (Or.inr ⟨by rfl, rfl⟩) (by assumption) ?_
        try simp only [Act.put, List.setIfInBounds_toArray, List.set_cons_zero, List.set_cons_succ]
        refine wpAnyH_take (i := 28) (oi := { dst := some 62, op := Op.pick (Operand.tmp 47) (Operand.tmp 61) (Operand.const (Value.bool false)), type := 4, pos := "law.go:82", after := #[{ on := 13, ground := Ground.data }, { on := 27, ground := Ground.data }], guard := none }) (v := ?_) rfl (by kernel_rfl) (by kernel_rfl) (by kernel_rfl) (fun _ _ _ h => h) (Or.inl ⟨by rfl, ?hy28⟩) (by assumption) ?_
        case hy28 => (intro w hSw; (try dsimp only at hSw); go_simp); (try with_reducible rfl)
        try simp only [Act.put, List.setIfInBounds_toArray, List.set_cons_zero, List.set_cons_succ]
        refine wpAnyH_done (by kernel_rfl) ?_ _
        clear x0 x1 y0 y1
        obtain ⟨v9, hv9⟩ : ∃ W, W = w6 := ⟨_, rfl⟩
        have D9' := D6
        rw [← hv9] at D9' ⊢
        clear hv9
        have B9 := B5.trans (D9'.mono B5.size)
        have HX9 := Lib.hid (keepB HX5.out D9')
        have HY9 := Lib.hid (keepB HY5.out D9')
        obtain ⟨x0, x1, _, _⟩ := buf_cells HX9.out
        go_wp2_with fail
        refine (Q5.out v9 (HU.out.later B9)).mono ?_
        rintro e wa ⟨rfl, ba⟩
        have BA := B9.trans (ba.mono B9.size)
        have HXA := Lib.hid (keepB HX9.out ba)
        clear ba x0 x1
        go_wp2_with fail
        obtain ⟨wb, eb, hb, bb⟩ := new_buf wa (.string bz) (.int .i64 z) 25
        rw [eb]
        have BB := BA.trans (bb.mono BA.size)
        have HXB9 := Lib.hid (keepB HXA.out bb)
        obtain ⟨x0, x1, _, _⟩ := buf_cells HXB9.out
        obtain ⟨z0, z1, _, _⟩ := buf_cells hb
        have HZB := Lib.hid hb
        clear hb bb eb
        go_wp2_with fail
        go_region_held3 (fun w' => w'.cell? ⟨w2.heap.size, 0, none⟩ = some (.string bs) ∧ w'.cell? ⟨wa.heap.size, 0, none⟩ = some (.string bz)) (first | exact ⟨x0, z0⟩ | exact ⟨p1, r1⟩ | exact ⟨p2, r2⟩ | exact ⟨p3, r3⟩) (first
          | (go_at_call 24; (with_reducible refine (Q7.out wb.drew).mono ?_); rintro e wc ⟨v9, rfl, hv9, bc⟩; obtain ⟨A9, c9, rfl, _⟩ := hv9.rd; clear hv9; have DC : Below wb.heap.size wb wc := ((Below.refl _ wb).drew).trans bc; obtain ⟨p1, _, _, _⟩ := buf_cells (keepB HXB9.out DC); obtain ⟨r1, _, _, _⟩ := buf_cells (keepB HZB.out DC))
          | (go_at_call 24; (with_reducible refine (Q4.out wc).mono ?_); rintro e wd ⟨v9, rfl, hv9, bd⟩; obtain ⟨A9, c9, rfl, _⟩ := hv9.rd; clear hv9; have DD : Below wb.heap.size wb wd := DC.trans (bd.mono DC.size); obtain ⟨p2, _, _, _⟩ := buf_cells (keepB HXB9.out DD); obtain ⟨r2, _, _, _⟩ := buf_cells (keepB HZB.out DD))
          | (go_at_call 24; (with_reducible refine (Q8.out wd).mono ?_); rintro e we ⟨v9, rfl, hv9, be⟩; obtain ⟨A9, c9, rfl, _⟩ := hv9.rd; clear hv9; have DE : Below wb.heap.size wb we := DD.trans (be.mono DD.size); obtain ⟨p3, _, _, _⟩ := buf_cells (keepB HXB9.out DE); obtain ⟨r3, _, _, _⟩ := buf_cells (keepB HZB.out DE)))
        have BE := BB.trans (DE.mono BB.size)
        have HXE := Lib.hid (keepB HXB9.out DE)
        have HZE := Lib.hid (keepB HZB.out DE)
        clear x0 x1 z0 z1
        by_cases hcnt : ((cuts Z).length : Int) = ((cuts S).length : Int) - ((cuts G).length : Int)
        rotate_left
        · have hcb : (((cuts Z).length : Int) != ((cuts S).length : Int) - ((cuts G).length : Int)) = true := by rw [bne_iff_ne]; exact hcnt
          clear hcnt
          go_wp2_with fail
          refine (AL.out we (HU.out.later BE)).mono ?_
          rintro e wf ⟨rfl, bf⟩
          go_wp2
          go_ret
          exact ⟨rfl, BE.trans (bf.mono BE.size)⟩
        · have hcb : (((cuts Z).length : Int) != ((cuts S).length : Int) - ((cuts G).length : Int)) = false := by rw [bne_eq_false_iff_eq]; exact hcnt
          clear hcnt
          obtain ⟨x0, x1, _, _⟩ := buf_cells HXE.out
          obtain ⟨z0, z1, _, _⟩ := buf_cells HZE.out
          go_wp2_with fail
          refine (Q6.out we (HU.out.later BE)).mono ?_
          rintro e wf ⟨rfl, bf⟩
          have BF := BE.trans (bf.mono BE.size)
          have HXF := Lib.hid (keepB HXE.out bf)
          have HZF := Lib.hid (keepB HZE.out bf)
          clear bf x0 x1 z0 z1
          go_wp2_with fail
          obtain ⟨wg, eg, hg, bg9⟩ := new_buf wf (.string br) (.int .i64 y9) 25
          rw [eg]
          have BG := BF.trans (bg9.mono BF.size)
          have HXG := Lib.hid (keepB HXF.out bg9)
          have HZG := Lib.hid (keepB HZF.out bg9)
          have HRG := Lib.hid hg
          clear hg bg9 eg
          refine (AL.out wg (HU.out.later BG)).mono ?_
          rintro e wh ⟨rfl, bh⟩
          have BH := BG.trans (bh.mono BG.size)
          obtain ⟨x0, x1, _, _⟩ := buf_cells (keepB HXG.out bh)
          obtain ⟨z0, z1, _, _⟩ := buf_cells (keepB HZG.out bh)
          obtain ⟨g0, g1, _, _⟩ := buf_cells (keepB HRG.out bh)
          clear bh
          by_cases hzx : z = x
          · have hn : ((z : Int) != (x : Int)) = false := by rw [bne_eq_false_iff_eq, hzx]
            have hbe : (br.toList == bs.toList) = true := by rw [HRS.out hzx]; simp
            clear hzx
            go_wp2
            go_ret
            exact ⟨rfl, BH⟩
          · have hn : ((z : Int) != (x : Int)) = true := by rw [bne_iff_ne]; omega
            clear hzx
            go_wp2
            go_ret
            exact ⟨rfl, BH⟩
      · have i1 : ((y : Int) == (x : Int) + (bt.size : Int)) = true := by rw [beq_iff_eq]; have := HBTS.out; omega
        by_cases hcc : (cuts Y).length = (cuts S).length + (cuts T).length
        rotate_left
        · have i2 : (((cuts Y).length : Int) == ((cuts S).length : Int) + ((cuts T).length : Int)) = false := by rw [beq_eq_false_iff_ne]; omega
          clear hyx hcc
          go_wp2_with fail
          refine (q2'.out w3 (HU.out.later B3)).mono ?_
          rintro e w4 ⟨rfl, b4⟩
          have B4 := B3.trans (b4.mono B3.size)
          have HX4 := Lib.hid (keepB HX3.out b4)
          clear b4 x0 x1
          go_wp2_with fail
          obtain ⟨w5, e5, h5, b5⟩ := new_buf w4 (.string by9) (.int .i64 y) 25
          rw [e5]
          have B5 := B4.trans (b5.mono B4.size)
          have HX5 := Lib.hid (keepB HX4.out b5)
          obtain ⟨x0, x1, _, _⟩ := buf_cells HX5.out
          obtain ⟨y0, y1, _, _⟩ := buf_cells h5
          have HY5 := Lib.hid h5
          clear h5 b5 e5
          go_wp2_with fail
          refine wp_region_held_drew (S := fun w' => w'.cell? ⟨w2.heap.size, 0, none⟩ = some (.string bs) ∧ w'.cell? ⟨w2.heap.size, 1, none⟩ = some (.int .i64 x) ∧ w'.cell? ⟨w4.heap.size, 0, none⟩ = some (.string by9) ∧ w'.cell? ⟨w4.heap.size, 1, none⟩ = some (.int .i64 y)) (by kernel_rfl) ⟨x0, x1, y0, y1⟩ (fun hHeld => ?_)
          have D0 : Below w5.heap.size w5 w5.drew := (Below.refl _ w5).drew
          refine wpAnyH_take (i := 0) (oi := { dst := some 34, op := Op.move (Operand.tmp 9), type := 33, pos := "law.go:82", after := #[], guard := none }) (v := ?_) rfl (by kernel_rfl) (by kernel_rfl) (by kernel_rfl) (fun _ _ _ h => h) (Or.inl ⟨by rfl, ?hy0⟩) (by assumption) ?_
          case hy0 => (intro w hSw; (try dsimp only at hSw); go_simp); (try with_reducible rfl)
          try simp only [Act.put, List.setIfInBounds_toArray, List.set_cons_zero, List.set_cons_succ]
          refine wpAnyH_take (i := 1) (oi := { dst := some 35, op := Op.binOp BinOp.eql 33 (Operand.tmp 34) (Operand.const (Value.int IntKind.i64 0)) 33, type := 4, pos := "law.go:82", after := #[{ on := 0, ground := Ground.data }], guard := none }) (v := ?_) rfl (by kernel_rfl) (by kernel_rfl) (by kernel_rfl) (fun _ _ _ h => h) (Or.inl ⟨by rfl, ?hy1⟩) (by assumption) ?_
          case hy1 => (intro w hSw; (try dsimp only at hSw); go_simp); (try with_reducible rfl)
          try simp only [Act.put, List.setIfInBounds_toArray, List.set_cons_zero, List.set_cons_succ]
          refine wpAnyH_take (i := 2) (oi := { dst := some 36, op := Op.move (Operand.tmp 35), type := 4, pos := "law.go:82", after := #[{ on := 1, ground := Ground.data }], guard := none }) (v := ?_) rfl (by kernel_rfl) (by kernel_rfl) (by kernel_rfl) (fun _ _ _ h => h) (Or.inl ⟨by rfl, ?hy2⟩) (by assumption) ?_
          case hy2 => (intro w hSw; (try dsimp only at hSw); go_simp); (try with_reducible rfl)
          try simp only [Act.put, List.setIfInBounds_toArray, List.set_cons_zero, List.set_cons_succ]
          refine wpAnyH_take (i := 3) (oi := { dst := some 37, op := Op.fieldAddr 25 (Operand.tmp 8) 1, type := 0, pos := "law.go:82", after := #[{ on := 2, ground := Ground.guard }], guard := some (2, true) }) (v := ?_) rfl (by kernel_rfl) (by kernel_rfl) (by kernel_rfl) (fun _ _ _ h => h) (Or.inl ⟨by rfl, ?hy3⟩) (by assumption) ?_
          case hy3 => (intro w hSw; (try dsimp only at hSw); go_simp); (try with_reducible rfl)
          try simp only [Act.put, List.setIfInBounds_toArray, List.set_cons_zero, List.set_cons_succ]
          refine wpAnyH_take (i := 4) (oi := { dst := some 38, op := Op.load 3 (Operand.tmp 37), type := 3, pos := "law.go:82", after := #[{ on := 3, ground := Ground.data }, { on := 2, ground := Ground.guard }], guard := some (2, true) }) (v := ?_) rfl (by kernel_rfl) (by kernel_rfl) (by kernel_rfl) (fun _ _ _ h => h) (Or.inl ⟨by rfl, ?hy4⟩) (by assumption) ?_
          case hy4 => (intro w hSw; (try dsimp only at hSw); go_simp); (try with_reducible rfl)
          try simp only [Act.put, List.setIfInBounds_toArray, List.set_cons_zero, List.set_cons_succ]
          refine wpAnyH_take (i := 5) (oi := { dst := some 39, op := Op.fieldAddr 25 (Operand.tmp 7) 1, type := 0, pos := "law.go:82", after := #[{ on := 2, ground := Ground.guard }], guard := some (2, true) }) (v := ?_) rfl (by kernel_rfl) (by kernel_rfl) (by kernel_rfl) (fun _ _ _ h => h) (Or.inl ⟨by rfl, ?hy5⟩) (by assumption) ?_
          case hy5 => (intro w hSw; (try dsimp only at hSw); go_simp); (try with_reducible rfl)
          try simp only [Act.put, List.setIfInBounds_toArray, List.set_cons_zero, List.set_cons_succ]
          refine wpAnyH_take (i := 6) (oi := { dst := some 40, op := Op.load 3 (Operand.tmp 39), type := 3, pos := "law.go:82", after := #[{ on := 5, ground := Ground.data }, { on := 2, ground := Ground.guard }], guard := some (2, true) }) (v := ?_) rfl (by kernel_rfl) (by kernel_rfl) (by kernel_rfl) (fun _ _ _ h => h) (Or.inl ⟨by rfl, ?hy6⟩) (by assumption) ?_
          case hy6 => (intro w hSw; (try dsimp only at hSw); go_simp); (try with_reducible rfl)
          try simp only [Act.put, List.setIfInBounds_toArray, List.set_cons_zero, List.set_cons_succ]
          refine wpAnyH_take (i := 7) (oi := { dst := some 41, op := Op.move (Operand.tmp 1), type := 9, pos := "law.go:82", after := #[{ on := 2, ground := Ground.guard }], guard := some (2, true) }) (v := ?_) rfl (by kernel_rfl) (by kernel_rfl) (by kernel_rfl) (fun _ _ _ h => h) (Or.inl ⟨by rfl, ?hy7⟩) (by assumption) ?_
          case hy7 => (intro w hSw; (try dsimp only at hSw); go_simp); (try with_reducible rfl)
          try simp only [Act.put, List.setIfInBounds_toArray, List.set_cons_zero, List.set_cons_succ]
          refine wpAnyH_ready (rs := [8]) (by kernel_rfl) (by simp) ?_
          refine AllReadyH.cons (o := { dst := some 42, op := Op.call { callee := Callee.value (Operand.func 15), args := #[Operand.tmp 41], argTypes := #[9] }, type := 9, pos := "law.go:82", after := #[{ on := 7, ground := Ground.data }, { on := 2, ground := Ground.chain }, { on := 2, ground := Ground.guard }], guard := some (2, true) }) rfl (fun K hK => ?_) AllReadyH.nil
          go_simp
          go_at_call 15
          with_reducible refine (Q3.out w5.drew (HU.out.later (B5.trans (D0.mono B5.size)))).mono ?_
          rintro e w6 ⟨rfl, b6⟩
          have D6 : Below w5.heap.size w5 w6 := D0.trans (b6.mono D0.size)
          obtain ⟨p6, q6, _, _⟩ := buf_cells (keepB HX5.out D6)
          obtain ⟨r6, s6, _, _⟩ := buf_cells (keepB HY5.out D6)
          refine hK.out _ _ ⟨p6, q6, r6, s6⟩ (fun hHeld => ?_)
          clear hK K
          try simp only [Act.put, List.setIfInBounds_toArray, List.set_cons_zero, List.set_cons_succ]
          refine wpAnyH_take (i := 9) (oi := { dst := some 43, op := Op.call { callee := Callee.builtin Builtin.len, args := #[Operand.tmp 42], argTypes := #[9] }, type := 3, pos := "law.go:82", after := #[{ on := 8, ground := Ground.data }, { on := 2, ground := Ground.guard }], guard := some (2, true) }) (v := ?_) rfl (by kernel_rfl) (by kernel_rfl) (by kernel_rfl) (fun _ _ _ h => h) (Or.inl ⟨by rfl, ?hy9⟩) (by assumption) ?_
          case hy9 => (intro w hSw; (try dsimp only at hSw); go_simp); (try with_reducible rfl)
          try simp only [Act.put, List.setIfInBounds_toArray, List.set_cons_zero, List.set_cons_succ]
          refine wpAnyH_take (i := 10) (oi := { dst := some 44, op := Op.binOp BinOp.add 3 (Operand.tmp 40) (Operand.tmp 43) 3, type := 3, pos := "law.go:82", after := #[{ on := 6, ground := Ground.data }, { on := 9, ground := Ground.data }, { on := 2, ground := Ground.guard }], guard := some (2, true) }) (v := ?_) rfl (by kernel_rfl) (by kernel_rfl) (by kernel_rfl) (fun _ _ _ h => h) (Or.inl ⟨by rfl, ?hy10⟩) (by assumption) ?_
          case hy10 => (intro w hSw; (try dsimp only at hSw); go_simp); (try with_reducible rfl)
          try simp only [Act.put, List.setIfInBounds_toArray, List.set_cons_zero, List.set_cons_succ]
          refine wpAnyH_take (i := 11) (oi := { dst := some 45, op := Op.binOp BinOp.eql 3 (Operand.tmp 38) (Operand.tmp 44) 3, type := 4, pos := "law.go:82", after := #[{ on := 4, ground := Ground.data }, { on := 10, ground := Ground.data }, { on := 2, ground := Ground.guard }], guard := some (2, true) }) (v := ?_) rfl (by kernel_rfl) (by kernel_rfl) (by kernel_rfl) (fun _ _ _ h => h) (Or.inl ⟨by rfl, ?hy11⟩) (by assumption) ?_
          case hy11 => (intro w hSw; (try dsimp only at hSw); go_simp); (try with_reducible rfl)
          try simp only [Act.put, List.setIfInBounds_toArray, List.set_cons_zero, List.set_cons_succ]
          refine wpAnyH_take (i := 12) (oi := { dst := some 46, op := Op.pick (Operand.tmp 36) (Operand.tmp 45) (Operand.const (Value.bool false)), type := 4, pos := "law.go:82", after := #[{ on := 2, ground := Ground.data }, { on := 11, ground := Ground.data }], guard := none }) (v := ?_) rfl (by kernel_rfl) (by kernel_rfl) (by kernel_rfl) (fun _ _ _ h => h) (Or.inl ⟨by rfl, ?hy12⟩) (by assumption) ?_
          case hy12 => (intro w hSw; (try dsimp only at hSw); go_simp); (try with_reducible rfl)
          try simp only [Act.put, List.setIfInBounds_toArray, List.set_cons_zero, List.set_cons_succ]
          refine wpAnyH_take (i := 13) (oi := { dst := some 47, op := Op.move (Operand.tmp 46), type := 4, pos := "law.go:82", after := #[{ on := 12, ground := Ground.data }, { on := 8, ground := Ground.chain }], guard := none }) (v := ?_) rfl (by kernel_rfl) (by kernel_rfl) (by kernel_rfl) (fun _ _ _ h => h) (Or.inl ⟨by rfl, ?hy13⟩) (by assumption) ?_
          case hy13 => (intro w hSw; (try dsimp only at hSw); go_simp); (try with_reducible rfl)
          try simp only [Act.put, List.setIfInBounds_toArray, List.set_cons_zero, List.set_cons_succ]
          refine wpAnyH_take (i := 14) (oi := { dst := some 48, op := Op.fieldAddr 25 (Operand.tmp 8) 0, type := 0, pos := "law.go:82", after := #[{ on := 13, ground := Ground.guard }], guard := some (13, true) }) (v := ?_) rfl (by kernel_rfl) (by kernel_rfl) (by kernel_rfl) (fun _ _ _ h => h) (Or.inl ⟨by rfl, ?hy14⟩) (by assumption) ?_
          case hy14 => (intro w hSw; (try dsimp only at hSw); go_simp); (try with_reducible rfl)
          try simp only [Act.put, List.setIfInBounds_toArray, List.set_cons_zero, List.set_cons_succ]
          refine wpAnyH_take (i := 15) (oi := { dst := some 49, op := Op.load 9 (Operand.tmp 48), type := 9, pos := "law.go:82", after := #[{ on := 14, ground := Ground.data }, { on := 13, ground := Ground.guard }], guard := some (13, true) }) (v := ?_) rfl (by kernel_rfl) (by kernel_rfl) (by kernel_rfl) (fun _ _ _ h => h) (Or.inl ⟨by rfl, ?hy15⟩) (by assumption) ?_
          case hy15 => (intro w hSw; (try dsimp only at hSw); go_simp); (try with_reducible rfl)
          try simp only [Act.put, List.setIfInBounds_toArray, List.set_cons_zero, List.set_cons_succ]
          refine wpAnyH_take (i := 18) (oi := { dst := some 52, op := Op.fieldAddr 25 (Operand.tmp 7) 0, type := 0, pos := "law.go:82", after := #[{ on := 13, ground := Ground.guard }], guard := some (13, true) }) (v := ?_) rfl (by kernel_rfl) (by kernel_rfl) (by kernel_rfl) (fun _ _ _ h => h) (Or.inl ⟨by rfl, ?hy18⟩) (by assumption) ?_
          case hy18 => (intro w hSw; (try dsimp only at hSw); go_simp); (try with_reducible rfl)
          try simp only [Act.put, List.setIfInBounds_toArray, List.set_cons_zero, List.set_cons_succ]
          refine wpAnyH_take (i := 19) (oi := { dst := some 53, op := Op.load 9 (Operand.tmp 52), type := 9, pos := "law.go:82", after := #[{ on := 18, ground := Ground.data }, { on := 13, ground := Ground.guard }], guard := some (13, true) }) (v := ?_) rfl (by kernel_rfl) (by kernel_rfl) (by kernel_rfl) (fun _ _ _ h => h) (Or.inl ⟨by rfl, ?hy19⟩) (by assumption) ?_
          case hy19 => (intro w hSw; (try dsimp only at hSw); go_simp); (try with_reducible rfl)
          try simp only [Act.put, List.setIfInBounds_toArray, List.set_cons_zero, List.set_cons_succ]
          refine wpAnyH_take (i := 22) (oi := { dst := some 56, op := Op.move (Operand.tmp 1), type := 9, pos := "law.go:82", after := #[{ on := 13, ground := Ground.guard }], guard := some (13, true) }) (v := ?_) rfl (by kernel_rfl) (by kernel_rfl) (by kernel_rfl) (fun _ _ _ h => h) (Or.inl ⟨by rfl, ?hy22⟩) (by assumption) ?_
          case hy22 => (intro w hSw; (try dsimp only at hSw); go_simp); (try with_reducible rfl)
          try simp only [Act.put, List.setIfInBounds_toArray, List.set_cons_zero, List.set_cons_succ]
          refine wpAnyH_ready (rs := [16]) (by kernel_rfl) (by simp) ?_
          refine AllReadyH.cons (o := { dst := some 50, op := Op.call { callee := Callee.value (Operand.func 24), args := #[Operand.tmp 49], argTypes := #[9] }, type := 47, pos := "law.go:82", after := #[{ on := 15, ground := Ground.data }, { on := 13, ground := Ground.chain }, { on := 13, ground := Ground.guard }], guard := some (13, true) }) rfl (fun K hK => ?_) AllReadyH.nil
          go_simp
          go_at_call 24
          with_reducible refine (QY.out w6).mono ?_
          rintro e w7 ⟨v9, rfl, hv9, b7⟩
          obtain ⟨A9, c9, rfl, _⟩ := hv9.rd
          clear hv9
          have D7 : Below w5.heap.size w5 w7 := D6.trans (b7.mono D6.size)
          obtain ⟨p7, q7, _, _⟩ := buf_cells (keepB HX5.out D7)
          obtain ⟨r7, s7, _, _⟩ := buf_cells (keepB HY5.out D7)
          refine hK.out _ _ ⟨p7, q7, r7, s7⟩ (fun hHeld => ?_)
          clear hK K
          try simp only [Act.put, List.setIfInBounds_toArray, List.set_cons_zero, List.set_cons_succ]
          refine wpAnyH_take (i := 17) (oi := { dst := some 51, op := Op.call { callee := Callee.builtin Builtin.len, args := #[Operand.tmp 50], argTypes := #[47] }, type := 3, pos := "law.go:82", after := #[{ on := 16, ground := Ground.data }, { on := 13, ground := Ground.guard }], guard := some (13, true) }) (v := ?_) rfl (by kernel_rfl) (by kernel_rfl) (by kernel_rfl) (fun _ _ _ h => h) (Or.inl ⟨by rfl, ?hy17⟩) (by assumption) ?_
          case hy17 => (intro w hSw; (try dsimp only at hSw); go_simp); (try with_reducible rfl)
          try simp only [Act.put, List.setIfInBounds_toArray, List.set_cons_zero, List.set_cons_succ]
          refine wpAnyH_ready (rs := [20]) (by kernel_rfl) (by simp) ?_
          refine AllReadyH.cons (o := { dst := some 54, op := Op.call { callee := Callee.value (Operand.func 24), args := #[Operand.tmp 53], argTypes := #[9] }, type := 47, pos := "law.go:82", after := #[{ on := 19, ground := Ground.data }, { on := 16, ground := Ground.chain }, { on := 13, ground := Ground.guard }], guard := some (13, true) }) rfl (fun K hK => ?_) AllReadyH.nil
          go_simp
          go_at_call 24
          with_reducible refine (Q4.out w7).mono ?_
          rintro e w8 ⟨v9, rfl, hv9, b8⟩
          obtain ⟨A9, c9, rfl, _⟩ := hv9.rd
          clear hv9
          have D8 : Below w5.heap.size w5 w8 := D7.trans (b8.mono D7.size)
          obtain ⟨p8, q8, _, _⟩ := buf_cells (keepB HX5.out D8)
          obtain ⟨r8, s8, _, _⟩ := buf_cells (keepB HY5.out D8)
          refine hK.out _ _ ⟨p8, q8, r8, s8⟩ (fun hHeld => ?_)
          clear hK K
          try simp only [Act.put, List.setIfInBounds_toArray, List.set_cons_zero, List.set_cons_succ]
          refine wpAnyH_take (i := 21) (oi := { dst := some 55, op := Op.call { callee := Callee.builtin Builtin.len, args := #[Operand.tmp 54], argTypes := #[47] }, type := 3, pos := "law.go:82", after := #[{ on := 20, ground := Ground.data }, { on := 13, ground := Ground.guard }], guard := some (13, true) }) (v := ?_) rfl (by kernel_rfl) (by kernel_rfl) (by kernel_rfl) (fun _ _ _ h => h) (Or.inl ⟨by rfl, ?hy21⟩) (by assumption) ?_
          case hy21 => (intro w hSw; (try dsimp only at hSw); go_simp); (try with_reducible rfl)
          try simp only [Act.put, List.setIfInBounds_toArray, List.set_cons_zero, List.set_cons_succ]
          refine wpAnyH_ready (rs := [23]) (by kernel_rfl) (by simp) ?_
          refine AllReadyH.cons (o := { dst := some 57, op := Op.call { callee := Callee.value (Operand.func 15), args := #[Operand.tmp 56], argTypes := #[9] }, type := 9, pos := "law.go:82", after := #[{ on := 22, ground := Ground.data }, { on := 20, ground := Ground.chain }, { on := 13, ground := Ground.guard }], guard := some (13, true) }) rfl (fun K hK => ?_) AllReadyH.nil
          go_simp
          go_at_call 15
          with_reducible refine (Q3.out w8 (HU.out.later (B5.trans (D8.mono B5.size)))).mono ?_
          rintro e w9 ⟨rfl, b9⟩
          have D9 : Below w5.heap.size w5 w9 := D8.trans (b9.mono D8.size)
          obtain ⟨p9, q9, _, _⟩ := buf_cells (keepB HX5.out D9)
          obtain ⟨r9, s9, _, _⟩ := buf_cells (keepB HY5.out D9)
          refine hK.out _ _ ⟨p9, q9, r9, s9⟩ (fun hHeld => ?_)
          clear hK K
          try simp only [Act.put, List.setIfInBounds_toArray, List.set_cons_zero, List.set_cons_succ]
          refine wpAnyH_ready (rs := [24]) (by kernel_rfl) (by simp) ?_
          refine AllReadyH.cons (o := { dst := some 58, op := Op.call { callee := Callee.value (Operand.func 24), args := #[Operand.tmp 57], argTypes := #[9] }, type := 47, pos := "law.go:82", after := #[{ on := 23, ground := Ground.data }, { on := 23, ground := Ground.chain }, { on := 13, ground := Ground.guard }], guard := some (13, true) }) rfl (fun K hK => ?_) AllReadyH.nil
          go_simp
          go_at_call 24
          with_reducible refine (QT.out w9).mono ?_
          rintro e w10 ⟨v9, rfl, hv9, b10⟩
          obtain ⟨A9, c9, rfl, _⟩ := hv9.rd
          clear hv9
          have D10 : Below w5.heap.size w5 w10 := D9.trans (b10.mono D9.size)
          obtain ⟨p10, q10, _, _⟩ := buf_cells (keepB HX5.out D10)
          obtain ⟨r10, s10, _, _⟩ := buf_cells (keepB HY5.out D10)
          refine hK.out _ _ ⟨p10, q10, r10, s10⟩ (fun hHeld => ?_)
          clear hK K
          try simp only [Act.put, List.setIfInBounds_toArray, List.set_cons_zero, List.set_cons_succ]
          refine wpAnyH_take (i := 25) (oi := { dst := some 59, op := Op.call { callee := Callee.builtin Builtin.len, args := #[Operand.tmp 58], argTypes := #[47] }, type := 3, pos := "law.go:82", after := #[{ on := 24, ground := Ground.data }, { on := 13, ground := Ground.guard }], guard := some (13, true) }) (v := ?_) rfl (by kernel_rfl) (by kernel_rfl) (by kernel_rfl) (fun _ _ _ h => h) (Or.inl ⟨by rfl, ?hy25⟩) (by assumption) ?_
          case hy25 => (intro w hSw; (try dsimp only at hSw); go_simp); (try with_reducible rfl)
          try simp only [Act.put, List.setIfInBounds_toArray, List.set_cons_zero, List.set_cons_succ]
          refine wpAnyH_take (i := 26) (oi := { dst := some 60, op := Op.binOp BinOp.add 3 (Operand.tmp 55) (Operand.tmp 59) 3, type := 3, pos := "law.go:82", after := #[{ on := 21, ground := Ground.data }, { on := 25, ground := Ground.data }, { on := 13, ground := Ground.guard }], guard := some (13, true) }) (v := ?_) rfl (by kernel_rfl) (by kernel_rfl) (by kernel_rfl) (fun _ _ _ h => h) (Or.inl ⟨by rfl, ?hy26⟩) (by assumption) ?_
          case hy26 => (intro w hSw; (try dsimp only at hSw); go_simp); (try with_reducible rfl)
          try simp only [Act.put, List.setIfInBounds_toArray, List.set_cons_zero, List.set_cons_succ]
          refine wpAnyH_take (i := 27) (oi := { dst := some 61, op := Op.binOp BinOp.eql 3 (Operand.tmp 51) (Operand.tmp 60) 3, type := 4, pos := "law.go:82", after := #[{ on := 17, ground := Ground.data }, { on := 26, ground := Ground.data }, { on := 13, ground := Ground.guard }], guard := some (13, true) }) (v := ?_) rfl (by kernel_rfl) (by kernel_rfl) (by kernel_rfl) (fun _ _ _ h => h) (Or.inl ⟨by rfl, ?hy27⟩) (by assumption) ?_
          case hy27 => (intro w hSw; (try dsimp only at hSw); go_simp); (try with_reducible rfl)
          try simp only [Act.put, List.setIfInBounds_toArray, List.set_cons_zero, List.set_cons_succ]
          refine wpAnyH_take (i := 28) (oi := { dst := some 62, op := Op.pick (Operand.tmp 47) (Operand.tmp 61) (Operand.const (Value.bool false)), type := 4, pos := "law.go:82", after := #[{ on := 13, ground := Ground.data }, { on := 27, ground := Ground.data }], guard := none }) (v := ?_) rfl (by kernel_rfl) (by kernel_rfl) (by kernel_rfl) (fun _ _ _ h => h) (Or.inl ⟨by rfl, ?hy28⟩) (by assumption) ?_
          case hy28 => (intro w hSw; (try dsimp only at hSw); go_simp); (try with_reducible rfl)
          try simp only [Act.put, List.setIfInBounds_toArray, List.set_cons_zero, List.set_cons_succ]
          refine wpAnyH_done (by kernel_rfl) ?_ _
          clear x0 x1 y0 y1
          obtain ⟨v9, hv9⟩ : ∃ W, W = w10 := ⟨_, rfl⟩
          have D9' := D10
          rw [← hv9] at D9' ⊢
          clear hv9
          have B9 := B5.trans (D9'.mono B5.size)
          have HX9 := Lib.hid (keepB HX5.out D9')
          have HY9 := Lib.hid (keepB HY5.out D9')
          obtain ⟨x0, x1, _, _⟩ := buf_cells HX9.out
          go_wp2_with fail
          refine (Q5.out v9 (HU.out.later B9)).mono ?_
          rintro e wa ⟨rfl, ba⟩
          have BA := B9.trans (ba.mono B9.size)
          have HXA := Lib.hid (keepB HX9.out ba)
          clear ba x0 x1
          go_wp2_with fail
          obtain ⟨wb, eb, hb, bb⟩ := new_buf wa (.string bz) (.int .i64 z) 25
          rw [eb]
          have BB := BA.trans (bb.mono BA.size)
          have HXB9 := Lib.hid (keepB HXA.out bb)
          obtain ⟨x0, x1, _, _⟩ := buf_cells HXB9.out
          obtain ⟨z0, z1, _, _⟩ := buf_cells hb
          have HZB := Lib.hid hb
          clear hb bb eb
          go_wp2_with fail
          go_region_held3 (fun w' => w'.cell? ⟨w2.heap.size, 0, none⟩ = some (.string bs) ∧ w'.cell? ⟨wa.heap.size, 0, none⟩ = some (.string bz)) (first | exact ⟨x0, z0⟩ | exact ⟨p1, r1⟩ | exact ⟨p2, r2⟩ | exact ⟨p3, r3⟩) (first
            | (go_at_call 24; (with_reducible refine (Q7.out wb.drew).mono ?_); rintro e wc ⟨v9, rfl, hv9, bc⟩; obtain ⟨A9, c9, rfl, _⟩ := hv9.rd; clear hv9; have DC : Below wb.heap.size wb wc := ((Below.refl _ wb).drew).trans bc; obtain ⟨p1, _, _, _⟩ := buf_cells (keepB HXB9.out DC); obtain ⟨r1, _, _, _⟩ := buf_cells (keepB HZB.out DC))
            | (go_at_call 24; (with_reducible refine (Q4.out wc).mono ?_); rintro e wd ⟨v9, rfl, hv9, bd⟩; obtain ⟨A9, c9, rfl, _⟩ := hv9.rd; clear hv9; have DD : Below wb.heap.size wb wd := DC.trans (bd.mono DC.size); obtain ⟨p2, _, _, _⟩ := buf_cells (keepB HXB9.out DD); obtain ⟨r2, _, _, _⟩ := buf_cells (keepB HZB.out DD))
            | (go_at_call 24; (with_reducible refine (Q8.out wd).mono ?_); rintro e we ⟨v9, rfl, hv9, be⟩; obtain ⟨A9, c9, rfl, _⟩ := hv9.rd; clear hv9; have DE : Below wb.heap.size wb we := DD.trans (be.mono DD.size); obtain ⟨p3, _, _, _⟩ := buf_cells (keepB HXB9.out DE); obtain ⟨r3, _, _, _⟩ := buf_cells (keepB HZB.out DE)))
          have BE := BB.trans (DE.mono BB.size)
          have HXE := Lib.hid (keepB HXB9.out DE)
          have HZE := Lib.hid (keepB HZB.out DE)
          clear x0 x1 z0 z1
          by_cases hcnt : ((cuts Z).length : Int) = ((cuts S).length : Int) - ((cuts G).length : Int)
          rotate_left
          · have hcb : (((cuts Z).length : Int) != ((cuts S).length : Int) - ((cuts G).length : Int)) = true := by rw [bne_iff_ne]; exact hcnt
            clear hcnt
            go_wp2_with fail
            refine (AL.out we (HU.out.later BE)).mono ?_
            rintro e wf ⟨rfl, bf⟩
            go_wp2
            go_ret
            exact ⟨rfl, BE.trans (bf.mono BE.size)⟩
          · have hcb : (((cuts Z).length : Int) != ((cuts S).length : Int) - ((cuts G).length : Int)) = false := by rw [bne_eq_false_iff_eq]; exact hcnt
            clear hcnt
            obtain ⟨x0, x1, _, _⟩ := buf_cells HXE.out
            obtain ⟨z0, z1, _, _⟩ := buf_cells HZE.out
            go_wp2_with fail
            refine (Q6.out we (HU.out.later BE)).mono ?_
            rintro e wf ⟨rfl, bf⟩
            have BF := BE.trans (bf.mono BE.size)
            have HXF := Lib.hid (keepB HXE.out bf)
            have HZF := Lib.hid (keepB HZE.out bf)
            clear bf x0 x1 z0 z1
            go_wp2_with fail
            obtain ⟨wg, eg, hg, bg9⟩ := new_buf wf (.string br) (.int .i64 y9) 25
            rw [eg]
            have BG := BF.trans (bg9.mono BF.size)
            have HXG := Lib.hid (keepB HXF.out bg9)
            have HZG := Lib.hid (keepB HZF.out bg9)
            have HRG := Lib.hid hg
            clear hg bg9 eg
            refine (AL.out wg (HU.out.later BG)).mono ?_
            rintro e wh ⟨rfl, bh⟩
            have BH := BG.trans (bh.mono BG.size)
            obtain ⟨x0, x1, _, _⟩ := buf_cells (keepB HXG.out bh)
            obtain ⟨z0, z1, _, _⟩ := buf_cells (keepB HZG.out bh)
            obtain ⟨g0, g1, _, _⟩ := buf_cells (keepB HRG.out bh)
            clear bh
            by_cases hzx : z = x
            · have hn : ((z : Int) != (x : Int)) = false := by rw [bne_eq_false_iff_eq, hzx]
              have hbe : (br.toList == bs.toList) = true := by rw [HRS.out hzx]; simp
              clear hzx
              go_wp2
              go_ret
              exact ⟨rfl, BH⟩
            · have hn : ((z : Int) != (x : Int)) = true := by rw [bne_iff_ne]; omega
              clear hzx
              go_wp2
              go_ret
              exact ⟨rfl, BH⟩
        · have i2 : (((cuts Y).length : Int) == ((cuts S).length : Int) + ((cuts T).length : Int)) = true := by rw [beq_iff_eq]; omega
          have qc := Lib.hid QC.out
          rw [HAG.out hyx hcc] at qc
          clear hyx hcc
          go_wp2_with fail
          refine (q2'.out w3 (HU.out.later B3)).mono ?_
          rintro e w4 ⟨rfl, b4⟩
          have B4 := B3.trans (b4.mono B3.size)
          have HX4 := Lib.hid (keepB HX3.out b4)
          clear b4 x0 x1
          go_wp2_with fail
          obtain ⟨w5, e5, h5, b5⟩ := new_buf w4 (.string by9) (.int .i64 y) 25
          rw [e5]
          have B5 := B4.trans (b5.mono B4.size)
          have HX5 := Lib.hid (keepB HX4.out b5)
          obtain ⟨x0, x1, _, _⟩ := buf_cells HX5.out
          obtain ⟨y0, y1, _, _⟩ := buf_cells h5
          have HY5 := Lib.hid h5
          clear h5 b5 e5
          go_wp2_with fail
          refine wp_region_held_drew (S := fun w' => w'.cell? ⟨w2.heap.size, 0, none⟩ = some (.string bs) ∧ w'.cell? ⟨w2.heap.size, 1, none⟩ = some (.int .i64 x) ∧ w'.cell? ⟨w4.heap.size, 0, none⟩ = some (.string by9) ∧ w'.cell? ⟨w4.heap.size, 1, none⟩ = some (.int .i64 y)) (by kernel_rfl) ⟨x0, x1, y0, y1⟩ (fun hHeld => ?_)
          have D0 : Below w5.heap.size w5 w5.drew := (Below.refl _ w5).drew
          refine wpAnyH_take (i := 0) (oi := { dst := some 34, op := Op.move (Operand.tmp 9), type := 33, pos := "law.go:82", after := #[], guard := none }) (v := ?_) rfl (by kernel_rfl) (by kernel_rfl) (by kernel_rfl) (fun _ _ _ h => h) (Or.inl ⟨by rfl, ?hy0⟩) (by assumption) ?_
          case hy0 => (intro w hSw; (try dsimp only at hSw); go_simp); (try with_reducible rfl)
          try simp only [Act.put, List.setIfInBounds_toArray, List.set_cons_zero, List.set_cons_succ]
          refine wpAnyH_take (i := 1) (oi := { dst := some 35, op := Op.binOp BinOp.eql 33 (Operand.tmp 34) (Operand.const (Value.int IntKind.i64 0)) 33, type := 4, pos := "law.go:82", after := #[{ on := 0, ground := Ground.data }], guard := none }) (v := ?_) rfl (by kernel_rfl) (by kernel_rfl) (by kernel_rfl) (fun _ _ _ h => h) (Or.inl ⟨by rfl, ?hy1⟩) (by assumption) ?_
          case hy1 => (intro w hSw; (try dsimp only at hSw); go_simp); (try with_reducible rfl)
          try simp only [Act.put, List.setIfInBounds_toArray, List.set_cons_zero, List.set_cons_succ]
          refine wpAnyH_take (i := 2) (oi := { dst := some 36, op := Op.move (Operand.tmp 35), type := 4, pos := "law.go:82", after := #[{ on := 1, ground := Ground.data }], guard := none }) (v := ?_) rfl (by kernel_rfl) (by kernel_rfl) (by kernel_rfl) (fun _ _ _ h => h) (Or.inl ⟨by rfl, ?hy2⟩) (by assumption) ?_
          case hy2 => (intro w hSw; (try dsimp only at hSw); go_simp); (try with_reducible rfl)
          try simp only [Act.put, List.setIfInBounds_toArray, List.set_cons_zero, List.set_cons_succ]
          refine wpAnyH_take (i := 3) (oi := { dst := some 37, op := Op.fieldAddr 25 (Operand.tmp 8) 1, type := 0, pos := "law.go:82", after := #[{ on := 2, ground := Ground.guard }], guard := some (2, true) }) (v := ?_) rfl (by kernel_rfl) (by kernel_rfl) (by kernel_rfl) (fun _ _ _ h => h) (Or.inl ⟨by rfl, ?hy3⟩) (by assumption) ?_
          case hy3 => (intro w hSw; (try dsimp only at hSw); go_simp); (try with_reducible rfl)
          try simp only [Act.put, List.setIfInBounds_toArray, List.set_cons_zero, List.set_cons_succ]
          refine wpAnyH_take (i := 4) (oi := { dst := some 38, op := Op.load 3 (Operand.tmp 37), type := 3, pos := "law.go:82", after := #[{ on := 3, ground := Ground.data }, { on := 2, ground := Ground.guard }], guard := some (2, true) }) (v := ?_) rfl (by kernel_rfl) (by kernel_rfl) (by kernel_rfl) (fun _ _ _ h => h) (Or.inl ⟨by rfl, ?hy4⟩) (by assumption) ?_
          case hy4 => (intro w hSw; (try dsimp only at hSw); go_simp); (try with_reducible rfl)
          try simp only [Act.put, List.setIfInBounds_toArray, List.set_cons_zero, List.set_cons_succ]
          refine wpAnyH_take (i := 5) (oi := { dst := some 39, op := Op.fieldAddr 25 (Operand.tmp 7) 1, type := 0, pos := "law.go:82", after := #[{ on := 2, ground := Ground.guard }], guard := some (2, true) }) (v := ?_) rfl (by kernel_rfl) (by kernel_rfl) (by kernel_rfl) (fun _ _ _ h => h) (Or.inl ⟨by rfl, ?hy5⟩) (by assumption) ?_
          case hy5 => (intro w hSw; (try dsimp only at hSw); go_simp); (try with_reducible rfl)
          try simp only [Act.put, List.setIfInBounds_toArray, List.set_cons_zero, List.set_cons_succ]
          refine wpAnyH_take (i := 6) (oi := { dst := some 40, op := Op.load 3 (Operand.tmp 39), type := 3, pos := "law.go:82", after := #[{ on := 5, ground := Ground.data }, { on := 2, ground := Ground.guard }], guard := some (2, true) }) (v := ?_) rfl (by kernel_rfl) (by kernel_rfl) (by kernel_rfl) (fun _ _ _ h => h) (Or.inl ⟨by rfl, ?hy6⟩) (by assumption) ?_
          case hy6 => (intro w hSw; (try dsimp only at hSw); go_simp); (try with_reducible rfl)
          try simp only [Act.put, List.setIfInBounds_toArray, List.set_cons_zero, List.set_cons_succ]
          refine wpAnyH_take (i := 7) (oi := { dst := some 41, op := Op.move (Operand.tmp 1), type := 9, pos := "law.go:82", after := #[{ on := 2, ground := Ground.guard }], guard := some (2, true) }) (v := ?_) rfl (by kernel_rfl) (by kernel_rfl) (by kernel_rfl) (fun _ _ _ h => h) (Or.inl ⟨by rfl, ?hy7⟩) (by assumption) ?_
          case hy7 => (intro w hSw; (try dsimp only at hSw); go_simp); (try with_reducible rfl)
          try simp only [Act.put, List.setIfInBounds_toArray, List.set_cons_zero, List.set_cons_succ]
          refine wpAnyH_ready (rs := [8]) (by kernel_rfl) (by simp) ?_
          refine AllReadyH.cons (o := { dst := some 42, op := Op.call { callee := Callee.value (Operand.func 15), args := #[Operand.tmp 41], argTypes := #[9] }, type := 9, pos := "law.go:82", after := #[{ on := 7, ground := Ground.data }, { on := 2, ground := Ground.chain }, { on := 2, ground := Ground.guard }], guard := some (2, true) }) rfl (fun K hK => ?_) AllReadyH.nil
          go_simp
          go_at_call 15
          with_reducible refine (Q3.out w5.drew (HU.out.later (B5.trans (D0.mono B5.size)))).mono ?_
          rintro e w6 ⟨rfl, b6⟩
          have D6 : Below w5.heap.size w5 w6 := D0.trans (b6.mono D0.size)
          obtain ⟨p6, q6, _, _⟩ := buf_cells (keepB HX5.out D6)
          obtain ⟨r6, s6, _, _⟩ := buf_cells (keepB HY5.out D6)
          refine hK.out _ _ ⟨p6, q6, r6, s6⟩ (fun hHeld => ?_)
          clear hK K
          try simp only [Act.put, List.setIfInBounds_toArray, List.set_cons_zero, List.set_cons_succ]
          refine wpAnyH_take (i := 9) (oi := { dst := some 43, op := Op.call { callee := Callee.builtin Builtin.len, args := #[Operand.tmp 42], argTypes := #[9] }, type := 3, pos := "law.go:82", after := #[{ on := 8, ground := Ground.data }, { on := 2, ground := Ground.guard }], guard := some (2, true) }) (v := ?_) rfl (by kernel_rfl) (by kernel_rfl) (by kernel_rfl) (fun _ _ _ h => h) (Or.inl ⟨by rfl, ?hy9⟩) (by assumption) ?_
          case hy9 => (intro w hSw; (try dsimp only at hSw); go_simp); (try with_reducible rfl)
          try simp only [Act.put, List.setIfInBounds_toArray, List.set_cons_zero, List.set_cons_succ]
          refine wpAnyH_take (i := 10) (oi := { dst := some 44, op := Op.binOp BinOp.add 3 (Operand.tmp 40) (Operand.tmp 43) 3, type := 3, pos := "law.go:82", after := #[{ on := 6, ground := Ground.data }, { on := 9, ground := Ground.data }, { on := 2, ground := Ground.guard }], guard := some (2, true) }) (v := ?_) rfl (by kernel_rfl) (by kernel_rfl) (by kernel_rfl) (fun _ _ _ h => h) (Or.inl ⟨by rfl, ?hy10⟩) (by assumption) ?_
          case hy10 => (intro w hSw; (try dsimp only at hSw); go_simp); (try with_reducible rfl)
          try simp only [Act.put, List.setIfInBounds_toArray, List.set_cons_zero, List.set_cons_succ]
          refine wpAnyH_take (i := 11) (oi := { dst := some 45, op := Op.binOp BinOp.eql 3 (Operand.tmp 38) (Operand.tmp 44) 3, type := 4, pos := "law.go:82", after := #[{ on := 4, ground := Ground.data }, { on := 10, ground := Ground.data }, { on := 2, ground := Ground.guard }], guard := some (2, true) }) (v := ?_) rfl (by kernel_rfl) (by kernel_rfl) (by kernel_rfl) (fun _ _ _ h => h) (Or.inl ⟨by rfl, ?hy11⟩) (by assumption) ?_
          case hy11 => (intro w hSw; (try dsimp only at hSw); go_simp); (try with_reducible rfl)
          try simp only [Act.put, List.setIfInBounds_toArray, List.set_cons_zero, List.set_cons_succ]
          refine wpAnyH_take (i := 12) (oi := { dst := some 46, op := Op.pick (Operand.tmp 36) (Operand.tmp 45) (Operand.const (Value.bool false)), type := 4, pos := "law.go:82", after := #[{ on := 2, ground := Ground.data }, { on := 11, ground := Ground.data }], guard := none }) (v := ?_) rfl (by kernel_rfl) (by kernel_rfl) (by kernel_rfl) (fun _ _ _ h => h) (Or.inl ⟨by rfl, ?hy12⟩) (by assumption) ?_
          case hy12 => (intro w hSw; (try dsimp only at hSw); go_simp); (try with_reducible rfl)
          try simp only [Act.put, List.setIfInBounds_toArray, List.set_cons_zero, List.set_cons_succ]
          refine wpAnyH_take (i := 13) (oi := { dst := some 47, op := Op.move (Operand.tmp 46), type := 4, pos := "law.go:82", after := #[{ on := 12, ground := Ground.data }, { on := 8, ground := Ground.chain }], guard := none }) (v := ?_) rfl (by kernel_rfl) (by kernel_rfl) (by kernel_rfl) (fun _ _ _ h => h) (Or.inl ⟨by rfl, ?hy13⟩) (by assumption) ?_
          case hy13 => (intro w hSw; (try dsimp only at hSw); go_simp); (try with_reducible rfl)
          try simp only [Act.put, List.setIfInBounds_toArray, List.set_cons_zero, List.set_cons_succ]
          refine wpAnyH_take (i := 14) (oi := { dst := some 48, op := Op.fieldAddr 25 (Operand.tmp 8) 0, type := 0, pos := "law.go:82", after := #[{ on := 13, ground := Ground.guard }], guard := some (13, true) }) (v := ?_) rfl (by kernel_rfl) (by kernel_rfl) (by kernel_rfl) (fun _ _ _ h => h) (Or.inl ⟨by rfl, ?hy14⟩) (by assumption) ?_
          case hy14 => (intro w hSw; (try dsimp only at hSw); go_simp); (try with_reducible rfl)
          try simp only [Act.put, List.setIfInBounds_toArray, List.set_cons_zero, List.set_cons_succ]
          refine wpAnyH_take (i := 15) (oi := { dst := some 49, op := Op.load 9 (Operand.tmp 48), type := 9, pos := "law.go:82", after := #[{ on := 14, ground := Ground.data }, { on := 13, ground := Ground.guard }], guard := some (13, true) }) (v := ?_) rfl (by kernel_rfl) (by kernel_rfl) (by kernel_rfl) (fun _ _ _ h => h) (Or.inl ⟨by rfl, ?hy15⟩) (by assumption) ?_
          case hy15 => (intro w hSw; (try dsimp only at hSw); go_simp); (try with_reducible rfl)
          try simp only [Act.put, List.setIfInBounds_toArray, List.set_cons_zero, List.set_cons_succ]
          refine wpAnyH_take (i := 18) (oi := { dst := some 52, op := Op.fieldAddr 25 (Operand.tmp 7) 0, type := 0, pos := "law.go:82", after := #[{ on := 13, ground := Ground.guard }], guard := some (13, true) }) (v := ?_) rfl (by kernel_rfl) (by kernel_rfl) (by kernel_rfl) (fun _ _ _ h => h) (Or.inl ⟨by rfl, ?hy18⟩) (by assumption) ?_
          case hy18 => (intro w hSw; (try dsimp only at hSw); go_simp); (try with_reducible rfl)
          try simp only [Act.put, List.setIfInBounds_toArray, List.set_cons_zero, List.set_cons_succ]
          refine wpAnyH_take (i := 19) (oi := { dst := some 53, op := Op.load 9 (Operand.tmp 52), type := 9, pos := "law.go:82", after := #[{ on := 18, ground := Ground.data }, { on := 13, ground := Ground.guard }], guard := some (13, true) }) (v := ?_) rfl (by kernel_rfl) (by kernel_rfl) (by kernel_rfl) (fun _ _ _ h => h) (Or.inl ⟨by rfl, ?hy19⟩) (by assumption) ?_
          case hy19 => (intro w hSw; (try dsimp only at hSw); go_simp); (try with_reducible rfl)
          try simp only [Act.put, List.setIfInBounds_toArray, List.set_cons_zero, List.set_cons_succ]
          refine wpAnyH_take (i := 22) (oi := { dst := some 56, op := Op.move (Operand.tmp 1), type := 9, pos := "law.go:82", after := #[{ on := 13, ground := Ground.guard }], guard := some (13, true) }) (v := ?_) rfl (by kernel_rfl) (by kernel_rfl) (by kernel_rfl) (fun _ _ _ h => h) (Or.inl ⟨by rfl, ?hy22⟩) (by assumption) ?_
          case hy22 => (intro w hSw; (try dsimp only at hSw); go_simp); (try with_reducible rfl)
          try simp only [Act.put, List.setIfInBounds_toArray, List.set_cons_zero, List.set_cons_succ]
          refine wpAnyH_ready (rs := [16]) (by kernel_rfl) (by simp) ?_
          refine AllReadyH.cons (o := { dst := some 50, op := Op.call { callee := Callee.value (Operand.func 24), args := #[Operand.tmp 49], argTypes := #[9] }, type := 47, pos := "law.go:82", after := #[{ on := 15, ground := Ground.data }, { on := 13, ground := Ground.chain }, { on := 13, ground := Ground.guard }], guard := some (13, true) }) rfl (fun K hK => ?_) AllReadyH.nil
          go_simp
          go_at_call 24
          with_reducible refine (QY.out w6).mono ?_
          rintro e w7 ⟨v9, rfl, hv9, b7⟩
          obtain ⟨A9, c9, rfl, _⟩ := hv9.rd
          clear hv9
          have D7 : Below w5.heap.size w5 w7 := D6.trans (b7.mono D6.size)
          obtain ⟨p7, q7, _, _⟩ := buf_cells (keepB HX5.out D7)
          obtain ⟨r7, s7, _, _⟩ := buf_cells (keepB HY5.out D7)
          refine hK.out _ _ ⟨p7, q7, r7, s7⟩ (fun hHeld => ?_)
          clear hK K
          try simp only [Act.put, List.setIfInBounds_toArray, List.set_cons_zero, List.set_cons_succ]
          refine wpAnyH_take (i := 17) (oi := { dst := some 51, op := Op.call { callee := Callee.builtin Builtin.len, args := #[Operand.tmp 50], argTypes := #[47] }, type := 3, pos := "law.go:82", after := #[{ on := 16, ground := Ground.data }, { on := 13, ground := Ground.guard }], guard := some (13, true) }) (v := ?_) rfl (by kernel_rfl) (by kernel_rfl) (by kernel_rfl) (fun _ _ _ h => h) (Or.inl ⟨by rfl, ?hy17⟩) (by assumption) ?_
          case hy17 => (intro w hSw; (try dsimp only at hSw); go_simp); (try with_reducible rfl)
          try simp only [Act.put, List.setIfInBounds_toArray, List.set_cons_zero, List.set_cons_succ]
          refine wpAnyH_ready (rs := [20]) (by kernel_rfl) (by simp) ?_
          refine AllReadyH.cons (o := { dst := some 54, op := Op.call { callee := Callee.value (Operand.func 24), args := #[Operand.tmp 53], argTypes := #[9] }, type := 47, pos := "law.go:82", after := #[{ on := 19, ground := Ground.data }, { on := 16, ground := Ground.chain }, { on := 13, ground := Ground.guard }], guard := some (13, true) }) rfl (fun K hK => ?_) AllReadyH.nil
          go_simp
          go_at_call 24
          with_reducible refine (Q4.out w7).mono ?_
          rintro e w8 ⟨v9, rfl, hv9, b8⟩
          obtain ⟨A9, c9, rfl, _⟩ := hv9.rd
          clear hv9
          have D8 : Below w5.heap.size w5 w8 := D7.trans (b8.mono D7.size)
          obtain ⟨p8, q8, _, _⟩ := buf_cells (keepB HX5.out D8)
          obtain ⟨r8, s8, _, _⟩ := buf_cells (keepB HY5.out D8)
          refine hK.out _ _ ⟨p8, q8, r8, s8⟩ (fun hHeld => ?_)
          clear hK K
          try simp only [Act.put, List.setIfInBounds_toArray, List.set_cons_zero, List.set_cons_succ]
          refine wpAnyH_take (i := 21) (oi := { dst := some 55, op := Op.call { callee := Callee.builtin Builtin.len, args := #[Operand.tmp 54], argTypes := #[47] }, type := 3, pos := "law.go:82", after := #[{ on := 20, ground := Ground.data }, { on := 13, ground := Ground.guard }], guard := some (13, true) }) (v := ?_) rfl (by kernel_rfl) (by kernel_rfl) (by kernel_rfl) (fun _ _ _ h => h) (Or.inl ⟨by rfl, ?hy21⟩) (by assumption) ?_
          case hy21 => (intro w hSw; (try dsimp only at hSw); go_simp); (try with_reducible rfl)
          try simp only [Act.put, List.setIfInBounds_toArray, List.set_cons_zero, List.set_cons_succ]
          refine wpAnyH_ready (rs := [23]) (by kernel_rfl) (by simp) ?_
          refine AllReadyH.cons (o := { dst := some 57, op := Op.call { callee := Callee.value (Operand.func 15), args := #[Operand.tmp 56], argTypes := #[9] }, type := 9, pos := "law.go:82", after := #[{ on := 22, ground := Ground.data }, { on := 20, ground := Ground.chain }, { on := 13, ground := Ground.guard }], guard := some (13, true) }) rfl (fun K hK => ?_) AllReadyH.nil
          go_simp
          go_at_call 15
          with_reducible refine (Q3.out w8 (HU.out.later (B5.trans (D8.mono B5.size)))).mono ?_
          rintro e w9 ⟨rfl, b9⟩
          have D9 : Below w5.heap.size w5 w9 := D8.trans (b9.mono D8.size)
          obtain ⟨p9, q9, _, _⟩ := buf_cells (keepB HX5.out D9)
          obtain ⟨r9, s9, _, _⟩ := buf_cells (keepB HY5.out D9)
          refine hK.out _ _ ⟨p9, q9, r9, s9⟩ (fun hHeld => ?_)
          clear hK K
          try simp only [Act.put, List.setIfInBounds_toArray, List.set_cons_zero, List.set_cons_succ]
          refine wpAnyH_ready (rs := [24]) (by kernel_rfl) (by simp) ?_
          refine AllReadyH.cons (o := { dst := some 58, op := Op.call { callee := Callee.value (Operand.func 24), args := #[Operand.tmp 57], argTypes := #[9] }, type := 47, pos := "law.go:82", after := #[{ on := 23, ground := Ground.data }, { on := 23, ground := Ground.chain }, { on := 13, ground := Ground.guard }], guard := some (13, true) }) rfl (fun K hK => ?_) AllReadyH.nil
          go_simp
          go_at_call 24
          with_reducible refine (QT.out w9).mono ?_
          rintro e w10 ⟨v9, rfl, hv9, b10⟩
          obtain ⟨A9, c9, rfl, _⟩ := hv9.rd
          clear hv9
          have D10 : Below w5.heap.size w5 w10 := D9.trans (b10.mono D9.size)
          obtain ⟨p10, q10, _, _⟩ := buf_cells (keepB HX5.out D10)
          obtain ⟨r10, s10, _, _⟩ := buf_cells (keepB HY5.out D10)
          refine hK.out _ _ ⟨p10, q10, r10, s10⟩ (fun hHeld => ?_)
          clear hK K
          try simp only [Act.put, List.setIfInBounds_toArray, List.set_cons_zero, List.set_cons_succ]
          refine wpAnyH_take (i := 25) (oi := { dst := some 59, op := Op.call { callee := Callee.builtin Builtin.len, args := #[Operand.tmp 58], argTypes := #[47] }, type := 3, pos := "law.go:82", after := #[{ on := 24, ground := Ground.data }, { on := 13, ground := Ground.guard }], guard := some (13, true) }) (v := ?_) rfl (by kernel_rfl) (by kernel_rfl) (by kernel_rfl) (fun _ _ _ h => h) (Or.inl ⟨by rfl, ?hy25⟩) (by assumption) ?_
          case hy25 => (intro w hSw; (try dsimp only at hSw); go_simp); (try with_reducible rfl)
          try simp only [Act.put, List.setIfInBounds_toArray, List.set_cons_zero, List.set_cons_succ]
          refine wpAnyH_take (i := 26) (oi := { dst := some 60, op := Op.binOp BinOp.add 3 (Operand.tmp 55) (Operand.tmp 59) 3, type := 3, pos := "law.go:82", after := #[{ on := 21, ground := Ground.data }, { on := 25, ground := Ground.data }, { on := 13, ground := Ground.guard }], guard := some (13, true) }) (v := ?_) rfl (by kernel_rfl) (by kernel_rfl) (by kernel_rfl) (fun _ _ _ h => h) (Or.inl ⟨by rfl, ?hy26⟩) (by assumption) ?_
          case hy26 => (intro w hSw; (try dsimp only at hSw); go_simp); (try with_reducible rfl)
          try simp only [Act.put, List.setIfInBounds_toArray, List.set_cons_zero, List.set_cons_succ]
          refine wpAnyH_take (i := 27) (oi := { dst := some 61, op := Op.binOp BinOp.eql 3 (Operand.tmp 51) (Operand.tmp 60) 3, type := 4, pos := "law.go:82", after := #[{ on := 17, ground := Ground.data }, { on := 26, ground := Ground.data }, { on := 13, ground := Ground.guard }], guard := some (13, true) }) (v := ?_) rfl (by kernel_rfl) (by kernel_rfl) (by kernel_rfl) (fun _ _ _ h => h) (Or.inl ⟨by rfl, ?hy27⟩) (by assumption) ?_
          case hy27 => (intro w hSw; (try dsimp only at hSw); go_simp); (try with_reducible rfl)
          try simp only [Act.put, List.setIfInBounds_toArray, List.set_cons_zero, List.set_cons_succ]
          refine wpAnyH_take (i := 28) (oi := { dst := some 62, op := Op.pick (Operand.tmp 47) (Operand.tmp 61) (Operand.const (Value.bool false)), type := 4, pos := "law.go:82", after := #[{ on := 13, ground := Ground.data }, { on := 27, ground := Ground.data }], guard := none }) (v := ?_) rfl (by kernel_rfl) (by kernel_rfl) (by kernel_rfl) (fun _ _ _ h => h) (Or.inl ⟨by rfl, ?hy28⟩) (by assumption) ?_
          case hy28 => (intro w hSw; (try dsimp only at hSw); go_simp); (try with_reducible rfl)
          try simp only [Act.put, List.setIfInBounds_toArray, List.set_cons_zero, List.set_cons_succ]
          refine wpAnyH_done (by kernel_rfl) ?_ _
          clear x0 x1 y0 y1
          obtain ⟨u9, hu9⟩ : ∃ W, W = w10 := ⟨_, rfl⟩
          have D9' := D10
          rw [← hu9] at D9' ⊢
          clear hu9
          have BU := B5.trans (D9'.mono B5.size)
          have HXU := Lib.hid (keepB HX5.out D9')
          have HYU := Lib.hid (keepB HY5.out D9')
          obtain ⟨x0, x1, _, _⟩ := buf_cells HXU.out
          obtain ⟨y0, y1, _, _⟩ := buf_cells HYU.out
          go_wp2_with fail
          refine (qc.out u9 (HU.out.later BU)).mono ?_
          rintro e u2 ⟨rfl, bu2⟩
          have BU2 := BU.trans (bu2.mono BU.size)
          have HXU2 := Lib.hid (keepB HXU.out bu2)
          clear bu2 x0 x1 y0 y1
          obtain ⟨x0, x1, _, _⟩ := buf_cells HXU2.out
          have lx := lt_of_heap HXU2.out
          have hne : ∀ W, (binOp .neq 25 (.agg #[.string bs, .int .i64 (x : Int)]) (.agg #[.string bs, .int .i64 (x : Int)])).run Tryd.prog W = .ok (.bool false) W := fun W => by rw [Tryd.neq_buf]; simp
          go_wp2_with fail
          obtain ⟨u3, eu3, hu3, bu3⟩ := new_buf u2 (.string bs) (.int .i64 x) 25
          rw [eu3]
          have BU3 := BU2.trans (bu3.mono BU2.size)
          have HXU3 := Lib.hid (keepB HXU2.out bu3)
          clear hu3 bu3 eu3 lx
          refine (Q3.out u3 (HU.out.later BU3)).mono ?_
          rintro e v9 ⟨rfl, bu4⟩
          have B9 := BU3.trans (bu4.mono BU3.size)
          have HX9 := Lib.hid (keepB HXU3.out bu4)
          clear bu4 x0 x1 hne
          obtain ⟨x0, x1, _, _⟩ := buf_cells HX9.out
          go_wp2_with fail
          refine (Q5.out v9 (HU.out.later B9)).mono ?_
          rintro e wa ⟨rfl, ba⟩
          have BA := B9.trans (ba.mono B9.size)
          have HXA := Lib.hid (keepB HX9.out ba)
          clear ba x0 x1
          go_wp2_with fail
          obtain ⟨wb, eb, hb, bb⟩ := new_buf wa (.string bz) (.int .i64 z) 25
          rw [eb]
          have BB := BA.trans (bb.mono BA.size)
          have HXB9 := Lib.hid (keepB HXA.out bb)
          obtain ⟨x0, x1, _, _⟩ := buf_cells HXB9.out
          obtain ⟨z0, z1, _, _⟩ := buf_cells hb
          have HZB := Lib.hid hb
          clear hb bb eb
          go_wp2_with fail
          go_region_held3 (fun w' => w'.cell? ⟨w2.heap.size, 0, none⟩ = some (.string bs) ∧ w'.cell? ⟨wa.heap.size, 0, none⟩ = some (.string bz)) (first | exact ⟨x0, z0⟩ | exact ⟨p1, r1⟩ | exact ⟨p2, r2⟩ | exact ⟨p3, r3⟩) (first
            | (go_at_call 24; (with_reducible refine (Q7.out wb.drew).mono ?_); rintro e wc ⟨v9, rfl, hv9, bc⟩; obtain ⟨A9, c9, rfl, _⟩ := hv9.rd; clear hv9; have DC : Below wb.heap.size wb wc := ((Below.refl _ wb).drew).trans bc; obtain ⟨p1, _, _, _⟩ := buf_cells (keepB HXB9.out DC); obtain ⟨r1, _, _, _⟩ := buf_cells (keepB HZB.out DC))
            | (go_at_call 24; (with_reducible refine (Q4.out wc).mono ?_); rintro e wd ⟨v9, rfl, hv9, bd⟩; obtain ⟨A9, c9, rfl, _⟩ := hv9.rd; clear hv9; have DD : Below wb.heap.size wb wd := DC.trans (bd.mono DC.size); obtain ⟨p2, _, _, _⟩ := buf_cells (keepB HXB9.out DD); obtain ⟨r2, _, _, _⟩ := buf_cells (keepB HZB.out DD))
            | (go_at_call 24; (with_reducible refine (Q8.out wd).mono ?_); rintro e we ⟨v9, rfl, hv9, be⟩; obtain ⟨A9, c9, rfl, _⟩ := hv9.rd; clear hv9; have DE : Below wb.heap.size wb we := DD.trans (be.mono DD.size); obtain ⟨p3, _, _, _⟩ := buf_cells (keepB HXB9.out DE); obtain ⟨r3, _, _, _⟩ := buf_cells (keepB HZB.out DE)))
          have BE := BB.trans (DE.mono BB.size)
          have HXE := Lib.hid (keepB HXB9.out DE)
          have HZE := Lib.hid (keepB HZB.out DE)
          clear x0 x1 z0 z1
          by_cases hcnt : ((cuts Z).length : Int) = ((cuts S).length : Int) - ((cuts G).length : Int)
          rotate_left
          · have hcb : (((cuts Z).length : Int) != ((cuts S).length : Int) - ((cuts G).length : Int)) = true := by rw [bne_iff_ne]; exact hcnt
            clear hcnt
            go_wp2_with fail
            refine (AL.out we (HU.out.later BE)).mono ?_
            rintro e wf ⟨rfl, bf⟩
            go_wp2
            go_ret
            exact ⟨rfl, BE.trans (bf.mono BE.size)⟩
          · have hcb : (((cuts Z).length : Int) != ((cuts S).length : Int) - ((cuts G).length : Int)) = false := by rw [bne_eq_false_iff_eq]; exact hcnt
            clear hcnt
            obtain ⟨x0, x1, _, _⟩ := buf_cells HXE.out
            obtain ⟨z0, z1, _, _⟩ := buf_cells HZE.out
            go_wp2_with fail
            refine (Q6.out we (HU.out.later BE)).mono ?_
            rintro e wf ⟨rfl, bf⟩
            have BF := BE.trans (bf.mono BE.size)
            have HXF := Lib.hid (keepB HXE.out bf)
            have HZF := Lib.hid (keepB HZE.out bf)
            clear bf x0 x1 z0 z1
            go_wp2_with fail
            obtain ⟨wg, eg, hg, bg9⟩ := new_buf wf (.string br) (.int .i64 y9) 25
            rw [eg]
            have BG := BF.trans (bg9.mono BF.size)
            have HXG := Lib.hid (keepB HXF.out bg9)
            have HZG := Lib.hid (keepB HZF.out bg9)
            have HRG := Lib.hid hg
            clear hg bg9 eg
            refine (AL.out wg (HU.out.later BG)).mono ?_
            rintro e wh ⟨rfl, bh⟩
            have BH := BG.trans (bh.mono BG.size)
            obtain ⟨x0, x1, _, _⟩ := buf_cells (keepB HXG.out bh)
            obtain ⟨z0, z1, _, _⟩ := buf_cells (keepB HZG.out bh)
            obtain ⟨g0, g1, _, _⟩ := buf_cells (keepB HRG.out bh)
            clear bh
            by_cases hzx : z = x
            · have hn : ((z : Int) != (x : Int)) = false := by rw [bne_eq_false_iff_eq, hzx]
              have hbe : (br.toList == bs.toList) = true := by rw [HRS.out hzx]; simp
              clear hzx
              go_wp2
              go_ret
              exact ⟨rfl, BH⟩
            · have hn : ((z : Int) != (x : Int)) = true := by rw [bne_iff_ne]; omega
              clear hzx
              go_wp2
              go_ret
              exact ⟨rfl, BH⟩
end Go.Proofs.YtcifakmlfndlaaaDoor
