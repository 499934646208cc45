import Derived.Test.YtpemjhghiccngaaDoorHs12
namespace Go.Proofs.YtpemjhghiccngaaDoor
set_option linter.unusedVariables false
set_option linter.unusedSimpArgs false
open Go.RowKit Go.Shelf
set_option maxRecDepth 100000 in
set_option maxHeartbeats 6400000 in
theorem RRight_calls (e : EntT) (hd : e.d.length ≤ 1000000) (hc : e.c.length ≤ 1000000) (w : World) (hU : U8 w) :
    Calls Tryd.prog 29 #[entV e] w fun x w' => x = .returned (.bool (rightE e)) ∧ Below w.heap.size w w' := by
  obtain ⟨sd, hsd⟩ : ∃ s : ByteArray, s = ⟨e.d.toArray⟩ := ⟨_, rfl⟩
  obtain ⟨sc, hsc⟩ : ∃ s : ByteArray, s = ⟨e.c.toArray⟩ := ⟨_, rfl⟩
  obtain ⟨pd, hpd⟩ : ∃ s : ByteArray, s = ⟨(pl e.d).toArray⟩ := ⟨_, rfl⟩
  obtain ⟨pc, hpc⟩ : ∃ s : ByteArray, s = ⟨(pl e.c).toArray⟩ := ⟨_, rfl⟩
  have ev : entV e = .agg #[.int .i64 e.t, .string sd, .string sc] := by unfold entV; rw [hsd, hsc]
  rw [ev]
  obtain ⟨t, ht⟩ : ∃ t, t = e.t := ⟨_, rfl⟩
  rw [← ht]
  obtain ⟨W0, hW0⟩ : ∃ W0, w.alloc (.cells #[.int .i64 t, .string sd, .string sc] 28) = W0 := ⟨_, rfl⟩
  have hB0 : Below w.heap.size w W0 := by rw [← hW0]; exact (Below.refl _ w).alloc (Nat.le_refl _) _
  have hb0 : W0.heap[w.heap.size]? = some (.cells #[.int .i64 t, .string sd, .string sc] 28 (0, 0)) := by rw [← hW0]; exact heap_alloc_new w _
  obtain ⟨c0, c1, c2⟩ := ent_cells hb0
  have q1 := fun (W : World) (h : U8 W) => rPlU e.d (by omega) sd hsd W h
  have q2 := fun (W : World) (h : U8 W) => rPlU e.c (by omega) sc hsc W h
  rw [← hpd] at q1
  rw [← hpc] at q2
  have hbd := str_beq hpd hsd
  have hbc := str_beq hpc hsc
  have hzd : sd.size = e.d.length := by rw [hsd, str_of]
  have hzc : sc.size = e.c.length := by rw [hsc, str_of]
  have hr : rightE e = (decide (0 ≤ t) && (decide (t < 1099511627776) && ((decide (sd.size ≤ 60) && decide (pl e.d = e.d)) && (decide (1 ≤ sc.size) && (decide (sc.size ≤ 600) && decide (pl e.c = e.c)))))) := by rw [hzd, hzc, ht]; rfl
  have HR := Lib.hid hr
  have HB := Lib.hid hb0
  have HW := Lib.hid hW0
  have HB0 := Lib.hid hB0
  have Q1 := Lib.hid q1
  have Q2 := Lib.hid q2
  have HU := Lib.hid hU
  have l0 := lt_of_heap hb0
  have hdl : sd.size ≤ 1000000 := by omega
  have hcl : sc.size ≤ 1000000 := by omega
  clear q1 q2 hr hb0 hB0 hW0 hU hsd hsc hpd hpc hzd hzc ht ev hd hc
  go_enter Tryd.func29, Tryd.ntmps29
  by_cases ht0 : 0 ≤ t
  rotate_left
  · have hf : rightE e = false := by rw [HR.out]; simp [ht0]
    have HF := Lib.hid hf
    have t00 : decide (t < 0) = true := decide_eq_true (by omega)
    clear hf ht0 
    go_wp2_with fail
    rw [HW.out]
    go_wp2
    go_ret
    exact ⟨by rw [HF.out]; rfl, HB0.out⟩
  · by_cases htl : t < 1099511627776
    rotate_left
    · have hf : rightE e = false := by rw [HR.out]; simp [htl]
      have HF := Lib.hid hf
      have t00 : decide (t < 0) = false := decide_eq_false (by omega)
      have tl0 : decide ((1099511627775 : Int) < t) = true := decide_eq_true (by omega)
      clear hf htl ht0
      go_wp2_with fail
      rw [HW.out]
      go_wp2
      go_ret
      exact ⟨by rw [HF.out]; rfl, HB0.out⟩
    · by_cases h60 : sd.size ≤ 60
      rotate_left
      · have hf : rightE e = false := by rw [HR.out]; simp [h60]
        have HF := Lib.hid hf
        have t00 : decide (t < 0) = false := decide_eq_false (by omega)
        have tl0 : decide ((1099511627775 : Int) < t) = false := decide_eq_false (by omega)
        have d60 : decide ((60 : Int) < (sd.size : Int)) = true := decide_eq_true (by omega)
        have d61 : decide (60 < sd.size) = true := decide_eq_true (by omega)
        clear hf h60 ht0 htl
        go_wp2_with fail
        rw [HW.out]
        go_wp2
        go_ret
        exact ⟨by rw [HF.out]; rfl, HB0.out⟩
      · by_cases hc1 : 1 ≤ sc.size
        rotate_left
        · have hf : rightE e = false := by rw [HR.out]; simp [hc1]
          have HF := Lib.hid hf
          have t00 : decide (t < 0) = false := decide_eq_false (by omega)
          have tl0 : decide ((1099511627775 : Int) < t) = false := decide_eq_false (by omega)
          have d60 : decide ((60 : Int) < (sd.size : Int)) = false := decide_eq_false (by omega)
          have d61 : decide (60 < sd.size) = false := decide_eq_false (by omega)
          have c10 : decide ((sc.size : Int) < 1) = true := decide_eq_true (by omega)
          have c11 : decide (sc.size < 1) = true := decide_eq_true (by omega)
          have c12 : decide (sc.size = 0) = true := decide_eq_true (by omega)
          clear hf hc1 ht0 htl h60
          go_wp2_with fail
          rw [HW.out]
          go_wp2
          go_ret
          exact ⟨by rw [HF.out]; rfl, HB0.out⟩
        · by_cases hc6 : sc.size ≤ 600
          rotate_left
          · have hf : rightE e = false := by rw [HR.out]; simp [hc6]
            have HF := Lib.hid hf
            have t00 : decide (t < 0) = false := decide_eq_false (by omega)
            have tl0 : decide ((1099511627775 : Int) < t) = false := decide_eq_false (by omega)
            have d60 : decide ((60 : Int) < (sd.size : Int)) = false := decide_eq_false (by omega)
            have d61 : decide (60 < sd.size) = false := decide_eq_false (by omega)
            have c10 : decide ((sc.size : Int) < 1) = false := decide_eq_false (by omega)
            have c11 : decide (sc.size < 1) = false := decide_eq_false (by omega)
            have c12 : decide (sc.size = 0) = false := decide_eq_false (by omega)
            have c60 : decide ((600 : Int) < (sc.size : Int)) = true := decide_eq_true (by omega)
            have c61 : decide (600 < sc.size) = true := decide_eq_true (by omega)
            clear hf hc6 ht0 htl h60 hc1
            go_wp2_with fail
            rw [HW.out]
            go_wp2
            go_ret
            exact ⟨by rw [HF.out]; rfl, HB0.out⟩
          · have hr2 : rightE e = (decide (pl e.d = e.d) && decide (pl e.c = e.c)) := by rw [HR.out]; simp [ht0, htl, h60, hc1, hc6]
            have t00 : decide (t < 0) = false := decide_eq_false (by omega)
            have tl0 : decide ((1099511627775 : Int) < t) = false := decide_eq_false (by omega)
            have d60 : decide ((60 : Int) < (sd.size : Int)) = false := decide_eq_false (by omega)
            have d61 : decide (60 < sd.size) = false := decide_eq_false (by omega)
            have c10 : decide ((sc.size : Int) < 1) = false := decide_eq_false (by omega)
            have c11 : decide (sc.size < 1) = false := decide_eq_false (by omega)
            have c12 : decide (sc.size = 0) = false := decide_eq_false (by omega)
            have c60 : decide ((600 : Int) < (sc.size : Int)) = false := decide_eq_false (by omega)
            have c61 : decide (600 < sc.size) = false := decide_eq_false (by omega)
            have HR2 := Lib.hid hr2
            clear hr2 ht0 htl h60 hc1 hc6
            by_cases hpl : pl e.d = e.d
            rotate_left
            · rw [decide_eq_false hpl] at hbd
              have hf : rightE e = false := by rw [HR2.out, decide_eq_false hpl, Bool.false_and]
              have HF := Lib.hid hf
              clear hf hpl
              go_wp2_with fail
              rw [HW.out]
              go_wp2_with fail
              have D0 : Below W0.heap.size W0 W0.drew := (Below.refl _ W0).drew
              refine wp_region_held_drew (S := fun w' => w'.cell? ⟨w.heap.size, 0, none⟩ = some (.int .i64 t) ∧ w'.cell? ⟨w.heap.size, 1, none⟩ = some (.string sd) ∧ w'.cell? ⟨w.heap.size, 2, none⟩ = some (.string sc)) (by kernel_rfl) ⟨c0, c1, c2⟩ (fun hHeld => ?_)
              refine wpAnyH_take (i := 0) (oi := { dst := some 29, op := Op.fieldAddr 28 (Operand.tmp 1) 1, type := 0, pos := "ref.go:22", after := #[], guard := none }) (v := ?_) rfl (by kernel_rfl) (by kernel_rfl) (by kernel_rfl) (fun _ _ _ h => h) (Or.inl ⟨by rfl, ?hy0⟩) (by assumption) ?_
              case hy0 => (intro w hSw; (try dsimp only at hSw); go_simp); (try with_reducible rfl)
              try simp only [Act.put, List.setIfInBounds_toArray, List.set_cons_zero, List.set_cons_succ]
              refine wpAnyH_take (i := 1) (oi := { dst := some 30, op := Op.load 9 (Operand.tmp 29), type := 9, pos := "ref.go:22", after := #[{ on := 0, ground := Ground.data }], guard := none }) (v := ?_) rfl (by kernel_rfl) (by kernel_rfl) (by kernel_rfl) (fun _ _ _ h => h) (Or.inl ⟨by rfl, ?hy1⟩) (by assumption) ?_
              case hy1 => (intro w hSw; (try dsimp only at hSw); go_simp); (try with_reducible rfl)
              try simp only [Act.put, List.setIfInBounds_toArray, List.set_cons_zero, List.set_cons_succ]
              refine wpAnyH_take (i := 3) (oi := { dst := some 32, op := Op.fieldAddr 28 (Operand.tmp 1) 1, type := 0, pos := "ref.go:22", after := #[], guard := none }) (v := ?_) rfl (by kernel_rfl) (by kernel_rfl) (by kernel_rfl) (fun _ _ _ h => h) (Or.inl ⟨by rfl, ?hy3⟩) (by assumption) ?_
              case hy3 => (intro w hSw; (try dsimp only at hSw); go_simp); (try with_reducible rfl)
              try simp only [Act.put, List.setIfInBounds_toArray, List.set_cons_zero, List.set_cons_succ]
              refine wpAnyH_take (i := 4) (oi := { dst := some 33, op := Op.load 9 (Operand.tmp 32), type := 9, pos := "ref.go:22", after := #[{ on := 3, ground := Ground.data }], guard := none }) (v := ?_) rfl (by kernel_rfl) (by kernel_rfl) (by kernel_rfl) (fun _ _ _ h => h) (Or.inl ⟨by rfl, ?hy4⟩) (by assumption) ?_
              case hy4 => (intro w hSw; (try dsimp only at hSw); go_simp); (try with_reducible rfl)
              try simp only [Act.put, List.setIfInBounds_toArray, List.set_cons_zero, List.set_cons_succ]
              refine wpAnyH_ready (rs := [2]) (by kernel_rfl) (by simp) ?_
              refine AllReadyH.cons (o := { dst := some 31, op := Op.call { callee := Callee.value (Operand.func 51), args := #[Operand.tmp 30], argTypes := #[9] }, type := 9, pos := "ref.go:22", after := #[{ on := 1, ground := Ground.data }], guard := none }) rfl (fun K hK => ?_) AllReadyH.nil
              go_simp
              with_reducible refine (Q1.out W0.drew (HU.out.later (HB0.out.trans (D0.mono HB0.out.size)))).mono ?_
              rintro x w1 ⟨rfl, b1⟩
              have D1 : Below W0.heap.size W0 w1 := D0.trans (b1.mono D0.size)
              obtain ⟨x1, y1, z1⟩ := ent_cells (keepB HB.out D1)
              refine hK.out _ _ ⟨x1, y1, z1⟩ (fun hHeld => ?_)
              clear hK K
              try simp only [Act.put, List.setIfInBounds_toArray, List.set_cons_zero, List.set_cons_succ]
              refine wpAnyH_take (i := 5) (oi := { dst := some 34, op := Op.binOp BinOp.eql 9 (Operand.tmp 31) (Operand.tmp 33) 9, type := 4, pos := "ref.go:22", after := #[{ on := 2, ground := Ground.data }, { on := 4, ground := Ground.data }], guard := none }) (v := ?_) rfl (by kernel_rfl) (by kernel_rfl) (by kernel_rfl) (fun _ _ _ h => h) (Or.inl ⟨by rfl, ?hy5⟩) (by assumption) ?_
              case hy5 => (intro w hSw; (try dsimp only at hSw); go_simp); (try with_reducible rfl)
              try simp only [Act.put, List.setIfInBounds_toArray, List.set_cons_zero, List.set_cons_succ]
              refine wpAnyH_take (i := 6) (oi := { dst := some 35, op := Op.move (Operand.tmp 34), type := 4, pos := "ref.go:22", after := #[{ on := 5, ground := Ground.data }, { on := 2, ground := Ground.chain }], guard := none }) (v := ?_) rfl (by kernel_rfl) (by kernel_rfl) (by kernel_rfl) (fun _ _ _ h => h) (Or.inl ⟨by rfl, ?hy6⟩) (by assumption) ?_
              case hy6 => (intro w hSw; (try dsimp only at hSw); go_simp); (try with_reducible rfl)
              try simp only [Act.put, List.setIfInBounds_toArray, List.set_cons_zero, List.set_cons_succ]
              refine wpAnyH_take (i := 7) (oi := { dst := some 36, op := Op.fieldAddr 28 (Operand.tmp 1) 2, type := 0, pos := "ref.go:22", after := #[{ on := 6, ground := Ground.guard }], guard := some (6, true) }) (v := undef) rfl (by kernel_rfl) (by kernel_rfl) (by kernel_rfl) (fun _ _ _ h => h) (Or.inr ⟨by rfl, rfl⟩) (by assumption) ?_
              try simp only [Act.put, List.setIfInBounds_toArray, List.set_cons_zero, List.set_cons_succ]
              refine wpAnyH_take (i := 8) (oi := { dst := some 37, op := Op.load 9 (Operand.tmp 36), type := 9, pos := "ref.go:22", after := #[{ on := 7, ground := Ground.data }, { on := 6, ground := Ground.guard }], guard := some (6, true) }) (v := undef) rfl (by kernel_rfl) (by kernel_rfl) (by kernel_rfl) (fun _ _ _ h => h) (Or.inr ⟨by rfl, rfl⟩) (by assumption) ?_
              try simp only [Act.put, List.setIfInBounds_toArray, List.set_cons_zero, List.set_cons_succ]
              refine wpAnyH_take (i := 9) (oi := { dst := some 38, op := Op.call { callee := Callee.value (Operand.func 51), args := #[Operand.tmp 37], argTypes := #[9] }, type := 9, pos := "ref.go:22", after := #[{ on := 8, ground := Ground.data }, { on := 6, ground := Ground.chain }, { on := 6, ground := Ground.guard }], guard := some (6, true) }) (v := undef) rfl (by kernel_rfl) (by kernel_rfl) (by kernel_rfl) (fun _ _ _ h => h) (Or.inr ⟨by rfl, rfl⟩) (by assumption) ?_
              try simp only [Act.put, List.setIfInBounds_toArray, List.set_cons_zero, List.set_cons_succ]
              refine wpAnyH_take (i := 10) (oi := { dst := some 39, op := Op.fieldAddr 28 (Operand.tmp 1) 2, type := 0, pos := "ref.go:22", after := #[{ on := 6, ground := Ground.guard }], guard := some (6, true) }) (v := undef) rfl (by kernel_rfl) (by kernel_rfl) (by kernel_rfl) (fun _ _ _ h => h) (Or.inr ⟨by rfl, rfl⟩) (by assumption) ?_
              try simp only [Act.put, List.setIfInBounds_toArray, List.set_cons_zero, List.set_cons_succ]
              refine wpAnyH_take (i := 11) (oi := { dst := some 40, op := Op.load 9 (Operand.tmp 39), type := 9, pos := "ref.go:22", after := #[{ on := 10, ground := Ground.data }, { on := 6, ground := Ground.guard }], guard := some (6, true) }) (v := undef) rfl (by kernel_rfl) (by kernel_rfl) (by kernel_rfl) (fun _ _ _ h => h) (Or.inr ⟨by rfl, rfl⟩) (by assumption) ?_
              try simp only [Act.put, List.setIfInBounds_toArray, List.set_cons_zero, List.set_cons_succ]
              refine wpAnyH_take (i := 12) (oi := { dst := some 41, op := Op.binOp BinOp.eql 9 (Operand.tmp 38) (Operand.tmp 40) 9, type := 4, pos := "ref.go:22", after := #[{ on := 9, ground := Ground.data }, { on := 11, ground := Ground.data }, { on := 6, ground := Ground.guard }], guard := some (6, true) }) (v := undef) rfl (by kernel_rfl) (by kernel_rfl) (by kernel_rfl) (fun _ _ _ h => h) (Or.inr ⟨by rfl, rfl⟩) (by assumption) ?_
              try simp only [Act.put, List.setIfInBounds_toArray, List.set_cons_zero, List.set_cons_succ]
              refine wpAnyH_take (i := 13) (oi := { dst := some 42, op := Op.pick (Operand.tmp 35) (Operand.tmp 41) (Operand.const (Value.bool false)), type := 4, pos := "ref.go:22", after := #[{ on := 6, ground := Ground.data }, { on := 12, ground := Ground.data }], guard := none }) (v := ?_) rfl (by kernel_rfl) (by kernel_rfl) (by kernel_rfl) (fun _ _ _ h => h) (Or.inl ⟨by rfl, ?hy13⟩) (by assumption) ?_
              case hy13 => (intro w hSw; (try dsimp only at hSw); go_simp); (try with_reducible rfl)
              try simp only [Act.put, List.setIfInBounds_toArray, List.set_cons_zero, List.set_cons_succ]
              refine wpAnyH_take (i := 14) (oi := { dst := some 2, op := Op.assign (Operand.tmp 42), type := 4, pos := "ref.go:22", after := #[{ on := 13, ground := Ground.data }, { on := 9, ground := Ground.chain }, { on := 0, ground := Ground.phase }, { on := 1, ground := Ground.phase }, { on := 2, ground := Ground.phase }, { on := 3, ground := Ground.phase }, { on := 4, ground := Ground.phase }, { on := 5, ground := Ground.phase }, { on := 6, ground := Ground.phase }, { on := 7, ground := Ground.phase }, { on := 8, ground := Ground.phase }, { on := 9, ground := Ground.phase }, { on := 10, ground := Ground.phase }, { on := 11, ground := Ground.phase }, { on := 12, ground := Ground.phase }, { on := 13, ground := Ground.phase }], guard := none }) (v := ?_) rfl (by kernel_rfl) (by kernel_rfl) (by kernel_rfl) (fun _ _ _ h => h) (Or.inl ⟨by rfl, ?hy14⟩) (by assumption) ?_
              case hy14 => (intro w hSw; (try dsimp only at hSw); go_simp); (try with_reducible rfl)
              try simp only [Act.put, List.setIfInBounds_toArray, List.set_cons_zero, List.set_cons_succ]
              refine wpAnyH_done (by kernel_rfl) ?_ _
              go_wp2
              go_ret
              exact ⟨by (rw [HF.out]); rfl, HB0.out.trans (D1.mono HB0.out.size)⟩
            · rw [decide_eq_true hpl] at hbd
              have hf : rightE e = decide (pl e.c = e.c) := by rw [HR2.out, decide_eq_true hpl, Bool.true_and]
              have HF := Lib.hid hf
              clear hf hpl
              go_wp2_with fail
              rw [HW.out]
              go_wp2_with fail
              have D0 : Below W0.heap.size W0 W0.drew := (Below.refl _ W0).drew
              refine wp_region_held_drew (S := fun w' => w'.cell? ⟨w.heap.size, 0, none⟩ = some (.int .i64 t) ∧ w'.cell? ⟨w.heap.size, 1, none⟩ = some (.string sd) ∧ w'.cell? ⟨w.heap.size, 2, none⟩ = some (.string sc)) (by kernel_rfl) ⟨c0, c1, c2⟩ (fun hHeld => ?_)
              refine wpAnyH_take (i := 0) (oi := { dst := some 29, op := Op.fieldAddr 28 (Operand.tmp 1) 1, type := 0, pos := "ref.go:22", after := #[], guard := none }) (v := ?_) rfl (by kernel_rfl) (by kernel_rfl) (by kernel_rfl) (fun _ _ _ h => h) (Or.inl ⟨by rfl, ?hy0⟩) (by assumption) ?_
              case hy0 => (intro w hSw; (try dsimp only at hSw); go_simp); (try with_reducible rfl)
              try simp only [Act.put, List.setIfInBounds_toArray, List.set_cons_zero, List.set_cons_succ]
              refine wpAnyH_take (i := 1) (oi := { dst := some 30, op := Op.load 9 (Operand.tmp 29), type := 9, pos := "ref.go:22", after := #[{ on := 0, ground := Ground.data }], guard := none }) (v := ?_) rfl (by kernel_rfl) (by kernel_rfl) (by kernel_rfl) (fun _ _ _ h => h) (Or.inl ⟨by rfl, ?hy1⟩) (by assumption) ?_
              case hy1 => (intro w hSw; (try dsimp only at hSw); go_simp); (try with_reducible rfl)
              try simp only [Act.put, List.setIfInBounds_toArray, List.set_cons_zero, List.set_cons_succ]
              refine wpAnyH_take (i := 3) (oi := { dst := some 32, op := Op.fieldAddr 28 (Operand.tmp 1) 1, type := 0, pos := "ref.go:22", after := #[], guard := none }) (v := ?_) rfl (by kernel_rfl) (by kernel_rfl) (by kernel_rfl) (fun _ _ _ h => h) (Or.inl ⟨by rfl, ?hy3⟩) (by assumption) ?_
              case hy3 => (intro w hSw; (try dsimp only at hSw); go_simp); (try with_reducible rfl)
              try simp only [Act.put, List.setIfInBounds_toArray, List.set_cons_zero, List.set_cons_succ]
              refine wpAnyH_take (i := 4) (oi := { dst := some 33, op := Op.load 9 (Operand.tmp 32), type := 9, pos := "ref.go:22", after := #[{ on := 3, ground := Ground.data }], guard := none }) (v := ?_) rfl (by kernel_rfl) (by kernel_rfl) (by kernel_rfl) (fun _ _ _ h => h) (Or.inl ⟨by rfl, ?hy4⟩) (by assumption) ?_
              case hy4 => (intro w hSw; (try dsimp only at hSw); go_simp); (try with_reducible rfl)
              try simp only [Act.put, List.setIfInBounds_toArray, List.set_cons_zero, List.set_cons_succ]
              refine wpAnyH_ready (rs := [2]) (by kernel_rfl) (by simp) ?_
              refine AllReadyH.cons (o := { dst := some 31, op := Op.call { callee := Callee.value (Operand.func 51), args := #[Operand.tmp 30], argTypes := #[9] }, type := 9, pos := "ref.go:22", after := #[{ on := 1, ground := Ground.data }], guard := none }) rfl (fun K hK => ?_) AllReadyH.nil
              go_simp
              with_reducible refine (Q1.out W0.drew (HU.out.later (HB0.out.trans (D0.mono HB0.out.size)))).mono ?_
              rintro x w1 ⟨rfl, b1⟩
              have D1 : Below W0.heap.size W0 w1 := D0.trans (b1.mono D0.size)
              obtain ⟨x1, y1, z1⟩ := ent_cells (keepB HB.out D1)
              refine hK.out _ _ ⟨x1, y1, z1⟩ (fun hHeld => ?_)
              clear hK K
              try simp only [Act.put, List.setIfInBounds_toArray, List.set_cons_zero, List.set_cons_succ]
              refine wpAnyH_take (i := 5) (oi := { dst := some 34, op := Op.binOp BinOp.eql 9 (Operand.tmp 31) (Operand.tmp 33) 9, type := 4, pos := "ref.go:22", after := #[{ on := 2, ground := Ground.data }, { on := 4, ground := Ground.data }], guard := none }) (v := ?_) rfl (by kernel_rfl) (by kernel_rfl) (by kernel_rfl) (fun _ _ _ h => h) (Or.inl ⟨by rfl, ?hy5⟩) (by assumption) ?_
              case hy5 => (intro w hSw; (try dsimp only at hSw); go_simp); (try with_reducible rfl)
              try simp only [Act.put, List.setIfInBounds_toArray, List.set_cons_zero, List.set_cons_succ]
              refine wpAnyH_take (i := 6) (oi := { dst := some 35, op := Op.move (Operand.tmp 34), type := 4, pos := "ref.go:22", after := #[{ on := 5, ground := Ground.data }, { on := 2, ground := Ground.chain }], guard := none }) (v := ?_) rfl (by kernel_rfl) (by kernel_rfl) (by kernel_rfl) (fun _ _ _ h => h) (Or.inl ⟨by rfl, ?hy6⟩) (by assumption) ?_
              case hy6 => (intro w hSw; (try dsimp only at hSw); go_simp); (try with_reducible rfl)
              try simp only [Act.put, List.setIfInBounds_toArray, List.set_cons_zero, List.set_cons_succ]
              refine wpAnyH_take (i := 7) (oi := { dst := some 36, op := Op.fieldAddr 28 (Operand.tmp 1) 2, type := 0, pos := "ref.go:22", after := #[{ on := 6, ground := Ground.guard }], guard := some (6, true) }) (v := ?_) rfl (by kernel_rfl) (by kernel_rfl) (by kernel_rfl) (fun _ _ _ h => h) (Or.inl ⟨by rfl, ?hy7⟩) (by assumption) ?_
              case hy7 => (intro w hSw; (try dsimp only at hSw); go_simp); (try with_reducible rfl)
              try simp only [Act.put, List.setIfInBounds_toArray, List.set_cons_zero, List.set_cons_succ]
              refine wpAnyH_take (i := 8) (oi := { dst := some 37, op := Op.load 9 (Operand.tmp 36), type := 9, pos := "ref.go:22", after := #[{ on := 7, ground := Ground.data }, { on := 6, ground := Ground.guard }], guard := some (6, true) }) (v := ?_) rfl (by kernel_rfl) (by kernel_rfl) (by kernel_rfl) (fun _ _ _ h => h) (Or.inl ⟨by rfl, ?hy8⟩) (by assumption) ?_
              case hy8 => (intro w hSw; (try dsimp only at hSw); go_simp); (try with_reducible rfl)
              try simp only [Act.put, List.setIfInBounds_toArray, List.set_cons_zero, List.set_cons_succ]
              refine wpAnyH_take (i := 10) (oi := { dst := some 39, op := Op.fieldAddr 28 (Operand.tmp 1) 2, type := 0, pos := "ref.go:22", after := #[{ on := 6, ground := Ground.guard }], guard := some (6, true) }) (v := ?_) rfl (by kernel_rfl) (by kernel_rfl) (by kernel_rfl) (fun _ _ _ h => h) (Or.inl ⟨by rfl, ?hy10⟩) (by assumption) ?_
              case hy10 => (intro w hSw; (try dsimp only at hSw); go_simp); (try with_reducible rfl)
              try simp only [Act.put, List.setIfInBounds_toArray, List.set_cons_zero, List.set_cons_succ]
              refine wpAnyH_take (i := 11) (oi := { dst := some 40, op := Op.load 9 (Operand.tmp 39), type := 9, pos := "ref.go:22", after := #[{ on := 10, ground := Ground.data }, { on := 6, ground := Ground.guard }], guard := some (6, true) }) (v := ?_) rfl (by kernel_rfl) (by kernel_rfl) (by kernel_rfl) (fun _ _ _ h => h) (Or.inl ⟨by rfl, ?hy11⟩) (by assumption) ?_
              case hy11 => (intro w hSw; (try dsimp only at hSw); go_simp); (try with_reducible rfl)
              try simp only [Act.put, List.setIfInBounds_toArray, List.set_cons_zero, List.set_cons_succ]
              refine wpAnyH_ready (rs := [9]) (by kernel_rfl) (by simp) ?_
              refine AllReadyH.cons (o := { dst := some 38, op := Op.call { callee := Callee.value (Operand.func 51), args := #[Operand.tmp 37], argTypes := #[9] }, type := 9, pos := "ref.go:22", after := #[{ on := 8, ground := Ground.data }, { on := 6, ground := Ground.chain }, { on := 6, ground := Ground.guard }], guard := some (6, true) }) rfl (fun K hK => ?_) AllReadyH.nil
              go_simp
              with_reducible refine (Q2.out w1 (HU.out.later (HB0.out.trans (D1.mono HB0.out.size)))).mono ?_
              rintro x w2 ⟨rfl, b2⟩
              have D2 : Below W0.heap.size W0 w2 := D1.trans (b2.mono D1.size)
              obtain ⟨x2, y2, z2⟩ := ent_cells (keepB HB.out D2)
              refine hK.out _ _ ⟨x2, y2, z2⟩ (fun hHeld => ?_)
              clear hK K
              try simp only [Act.put, List.setIfInBounds_toArray, List.set_cons_zero, List.set_cons_succ]
              refine wpAnyH_take (i := 12) (oi := { dst := some 41, op := Op.binOp BinOp.eql 9 (Operand.tmp 38) (Operand.tmp 40) 9, type := 4, pos := "ref.go:22", after := #[{ on := 9, ground := Ground.data }, { on := 11, ground := Ground.data }, { on := 6, ground := Ground.guard }], guard := some (6, true) }) (v := ?_) rfl (by kernel_rfl) (by kernel_rfl) (by kernel_rfl) (fun _ _ _ h => h) (Or.inl ⟨by rfl, ?hy12⟩) (by assumption) ?_
              case hy12 => (intro w hSw; (try dsimp only at hSw); go_simp); (try with_reducible rfl)
              try simp only [Act.put, List.setIfInBounds_toArray, List.set_cons_zero, List.set_cons_succ]
              refine wpAnyH_take (i := 13) (oi := { dst := some 42, op := Op.pick (Operand.tmp 35) (Operand.tmp 41) (Operand.const (Value.bool false)), type := 4, pos := "ref.go:22", after := #[{ on := 6, ground := Ground.data }, { on := 12, ground := Ground.data }], guard := none }) (v := ?_) rfl (by kernel_rfl) (by kernel_rfl) (by kernel_rfl) (fun _ _ _ h => h) (Or.inl ⟨by rfl, ?hy13⟩) (by assumption) ?_
              case hy13 => (intro w hSw; (try dsimp only at hSw); go_simp); (try with_reducible rfl)
              try simp only [Act.put, List.setIfInBounds_toArray, List.set_cons_zero, List.set_cons_succ]
              refine wpAnyH_take (i := 14) (oi := { dst := some 2, op := Op.assign (Operand.tmp 42), type := 4, pos := "ref.go:22", after := #[{ on := 13, ground := Ground.data }, { on := 9, ground := Ground.chain }, { on := 0, ground := Ground.phase }, { on := 1, ground := Ground.phase }, { on := 2, ground := Ground.phase }, { on := 3, ground := Ground.phase }, { on := 4, ground := Ground.phase }, { on := 5, ground := Ground.phase }, { on := 6, ground := Ground.phase }, { on := 7, ground := Ground.phase }, { on := 8, ground := Ground.phase }, { on := 9, ground := Ground.phase }, { on := 10, ground := Ground.phase }, { on := 11, ground := Ground.phase }, { on := 12, ground := Ground.phase }, { on := 13, ground := Ground.phase }], guard := none }) (v := ?_) rfl (by kernel_rfl) (by kernel_rfl) (by kernel_rfl) (fun _ _ _ h => h) (Or.inl ⟨by rfl, ?hy14⟩) (by assumption) ?_
              case hy14 => (intro w hSw; (try dsimp only at hSw); go_simp); (try with_reducible rfl)
              try simp only [Act.put, List.setIfInBounds_toArray, List.set_cons_zero, List.set_cons_succ]
              refine wpAnyH_done (by kernel_rfl) ?_ _
              go_wp2
              go_ret
              exact ⟨by (rw [HF.out]); rfl, HB0.out.trans (D2.mono HB0.out.size)⟩
end Go.Proofs.YtpemjhghiccngaaDoor
