import Derived.Test.YtcifakmlfndlaaaDoorTt27
import Derived.Deep.RegionHeld3
import Derived.BigQuiet
namespace Go.Proofs.YtcifakmlfndlaaaDoor
set_option linter.unusedVariables false
set_option linter.unusedSimpArgs false
open Go.RowKit Go.Shelf
theorem pv_at {S : Bs} (hS : mkS S = S) {k : Nat} (hk : k ≤ (cuts S).length) : prevN S (off (cuts S) k : Int) = off (cuts S) (k - 1) := by
  cases k with
  | zero => rw [show (0 : Nat) - 1 = 0 from rfl, off_zero]; exact prevN_zero S hS
  | succ k => exact prevN_off hS hk
theorem nx_at {S : Bs} (hS : mkS S = S) {k : Nat} (hk : k ≤ (cuts S).length) : nextN S (off (cuts S) k : Int) = off (cuts S) (min (k + 1) (cuts S).length) := by
  by_cases h : k < (cuts S).length
  · rw [nextN_off hS h, Nat.min_eq_left (by omega)]
  · rw [Nat.min_eq_right (by omega)]
    unfold nextN
    rw [hS, back_off S hk, on_end S (by have e : k = (cuts S).length := by omega
                                        rw [e, off_len]; omega), off_len]
set_option maxRecDepth 100000 in
set_option maxHeartbeats 6400000 in
theorem TextEnds_walk (w : World) (hU : U8 w) (s : ByteArray) (a : Int) (hs : s.size ≤ 140737488351232) :
    Calls Tryd.prog 8 #[.string s, .int .i64 a] w fun e w' => e = .returned (.bool true) ∧ Below w.heap.size w w' := by
  obtain ⟨l, hsl⟩ : ∃ l : Bs, s = ⟨l.toArray⟩ := ⟨s.data.toList, by cases s; simp⟩
  rw [hsl, str_of] at hs
  obtain ⟨W1, hW1, hB1, qf⟩ := str_start w s l hsl hs
  have QF := Lib.hid qf
  have HU := Lib.hid hU
  have HW1 := Lib.hid hW1
  have HB1 := Lib.hid hB1
  have al := fun (W : World) (h : U8 W) => al03_calls W h
  have AL := Lib.hid al
  have HSL := Lib.hid hsl
  clear qf hsl hU hW1 hB1 al
  go_enter Tryd.func8, Tryd.ntmps8
  go_wp2_with fail
  rw [HW1.out]
  refine QF.out.mono ?_
  rintro e w' ⟨rfl, rfl⟩
  by_cases hfw : l.length ≤ 1500
  rotate_left
  · rw [decide_eq_false hfw]
    clear hfw
    go_wp2_with fail
    refine (AL.out _ (HU.out.later HB1.out)).mono ?_
    rintro e w2 ⟨rfl, hb2⟩
    go_wp2
    go_ret
    exact ⟨rfl, HB1.out.trans (hb2.mono HB1.out.size)⟩
  · rw [decide_eq_true hfw]
    have q1 := Make_calls l (by omega) s HSL.out a w' (HU.out.later HB1.out)
    have hS := mkS_mkS l
    obtain ⟨k, hkb, hk2⟩ := back_is (mkS l) a
    have hk := hkb.1
    have hml := mkS_len l
    rw [hk2] at q1
    obtain ⟨S, hSe⟩ : ∃ S, S = mkS l := ⟨_, rfl⟩
    rw [← hSe] at hS hml q1 hk
    obtain ⟨bq, hbq⟩ : ∃ s : ByteArray, s = ⟨S.toArray⟩ := ⟨_, rfl⟩
    have zq : bq.size = S.length := by rw [hbq, str_of]
    have hq6 : bq.size ≤ 600 := by omega
    have q3 := fun (k : Nat) (hk : k ≤ (cuts S).length) (W : World) (h : U8 W) => WdR_calls hS bq hbq hk W h
    have q4 := fun (k : Nat) (hk : k ≤ (cuts S).length) (W : World) (h : U8 W) => WdL_calls hS bq hbq hk W h
    have q5 := fun (k : Nat) (hk : k ≤ (cuts S).length) (W : World) (h : U8 W) => by
      have := Pv_calls S (by omega) bq hbq (off (cuts S) k : Int) W h
      rw [pv_at hS hk] at this
      exact this
    have q6 := fun (k : Nat) (hk : k ≤ (cuts S).length) (W : World) (h : U8 W) => by
      have := Nx_calls S (by omega) bq hbq (off (cuts S) k : Int) W h
      rw [nx_at hS hk] at this
      exact this
    have q7 := fun (k : Nat) (hk : k ≤ (cuts S).length) (W : World) (h : U8 W) => by
      have := Make_calls S (by omega) bq hbq (off (cuts S) k : Int) W h
      rw [hS, back_off S hk, show bufV S (off (cuts S) k) = .agg #[.string bq, .int .i64 (off (cuts S) k : Int)] by rw [hbq]] at this
      exact this
    have hlts : ∀ j k, j < k → k ≤ (cuts S).length → off (cuts S) j < off (cuts S) k := fun j k h1 h2 => off_lt (cuts_nz S) h1 h2
    have hlen : off (cuts S) (cuts S).length = bq.size := by rw [zq, off_len]
    have hle : ∀ k, off (cuts S) k ≤ bq.size := fun k => by rw [zq]; exact off_le S k
    have hmo : ∀ j k, j ≤ k → off (cuts S) j ≤ off (cuts S) k := fun j k h => off_mono _ h
    rw [show bufV S (off (cuts S) k) = .agg #[.string bq, .int .i64 (off (cuts S) k : Int)] by rw [hbq]] at q1
    obtain ⟨cs, hcs⟩ : ∃ cs, cs = cuts S := ⟨_, rfl⟩
    rw [← hcs] at q1 q3 q4 q5 q6 q7 hlts hlen hle hmo hk
    obtain ⟨x, hx⟩ : ∃ x, x = off cs k := ⟨_, rfl⟩
    obtain ⟨p, hp⟩ : ∃ x, x = off cs (k - 1) := ⟨_, rfl⟩
    obtain ⟨n, hn⟩ : ∃ x, x = off cs (min (k + 1) cs.length) := ⟨_, rfl⟩
    obtain ⟨lf, hlf⟩ : ∃ x, x = off cs (wdL cs k) := ⟨_, rfl⟩
    obtain ⟨rt, hrt⟩ : ∃ x, x = off cs (wdR cs k) := ⟨_, rfl⟩
    have hwl := wdL_le cs k
    have hwr := wdR_le cs hk
    have f1 := q5 k hk
    have f2 := q6 k hk
    have f3 := q4 k hk
    have f4 := q3 k hk
    have f5 := q7 (wdL cs k) (by omega)
    have f6 := q7 (wdR cs k) hwr.2
    have f7 := q6 (k - 1) (by omega)
    have f8 := q5 (min (k + 1) cs.length) (by omega)
    rw [← hx, ← hp] at f1
    rw [← hx, ← hn] at f2
    rw [← hx, ← hlf] at f3
    rw [← hx, ← hrt] at f4
    rw [← hlf] at f5
    rw [← hrt] at f6
    rw [← hp] at f7
    rw [← hn] at f8
    rw [← hx] at q1
    have g1 : p ≤ x := by rw [hp, hx]; exact hmo _ _ (by omega)
    have g2 : x ≤ n := by rw [hn, hx]; exact hmo _ _ (by omega)
    have g3 : lf ≤ p := by
      rw [hlf, hp]; refine hmo _ _ ?_
      cases k with
      | zero => exact wdL_le cs 0
      | succ k => exact wdL_lt cs
    have g4 : n ≤ rt := by
      rw [hn, hrt]; refine hmo _ _ ?_
      by_cases h : k < cs.length
      · have := wdR_gt cs h; omega
      · omega
    have g5 : rt ≤ bq.size := by rw [hrt]; exact hle _
    have hx6 : x ≤ bq.size := by rw [hx]; exact hle _
    have hc : (k = 0 ∧ x = 0) ∨ (0 < k ∧ 0 < x ∧ off cs (min (k - 1 + 1) cs.length) = x) := by
      rcases Nat.eq_zero_or_pos k with h | h
      · exact .inl ⟨h, by rw [hx, h, off_zero]⟩
      · refine .inr ⟨h, ?_, by rw [hx, show min (k - 1 + 1) cs.length = k by omega]⟩
        have := hlts 0 k h hk
        rw [off_zero] at this; omega
    have hd : (k = cs.length ∧ x = bq.size) ∨ (k < cs.length ∧ x < bq.size ∧ off cs (min (k + 1) cs.length - 1) = x) := by
      rcases Nat.lt_or_ge k cs.length with h | h
      · refine .inr ⟨h, ?_, by rw [hx, show min (k + 1) cs.length - 1 = k by omega]⟩
        have := hlts k cs.length h (Nat.le_refl _)
        omega
      · exact .inl ⟨by omega, by rw [hx, show k = cs.length by omega, hlen]⟩
    have Q1 := Lib.hid q1
    have F1 := Lib.hid f1
    have F2 := Lib.hid f2
    have F3 := Lib.hid f3
    have F4 := Lib.hid f4
    have F5 := Lib.hid f5
    have F6 := Lib.hid f6
    have F7 := Lib.hid f7
    have F8 := Lib.hid f8
    have hfld1 : ∀ (W : World), (Instr.field 25 (.agg #[.string bq, .int .i64 (lf : Int)]) 1).run Tryd.prog W = .ok (.int .i64 (lf : Int)) W := fun _ => by kernel_rfl
    have hfld2 : ∀ (W : World), (Instr.field 25 (.agg #[.string bq, .int .i64 (rt : Int)]) 1).run Tryd.prog W = .ok (.int .i64 (rt : Int)) W := fun _ => by kernel_rfl
    have HC := Lib.hid hc
    have HD := Lib.hid hd
    clear hfw hs hml hSe hbq zq q1 q3 q4 q5 q6 q7 hlts hlen hle hmo hcs hS hkb hk2 hx hp hn hlf hrt hwl hwr f1 f2 f3 f4 f5 f6 f7 f8 hc hd hk
    go_wp2_with fail
    refine (Q1.out).mono ?_
    rintro e w2 ⟨rfl, b2⟩
    have B2 := HB1.out.trans (b2.mono HB1.out.size)
    clear b2
    go_wp2_with fail
    obtain ⟨w3, e3, h3, b3⟩ := new_buf w2 (.string bq) (.int .i64 x) 25
    rw [e3]
    have B3 := B2.trans (b3.mono B2.size)
    have l3 := lt_of_heap h3
    obtain ⟨c0, c1, _, _⟩ := buf_cells h3
    have H3 := Lib.hid h3
    clear h3 b3 e3
    go_region_held3 (fun w' => w'.cell? ⟨w2.heap.size, 0, none⟩ = some (.string bq) ∧ w'.cell? ⟨w2.heap.size, 1, none⟩ = some (.int .i64 x)) (first | exact ⟨c0, c1⟩ | exact ⟨x0, x1⟩ | exact ⟨y0, y1⟩) (first
      | (go_at_call 25; (with_reducible refine (F1.out w3.drew (HU.out.later B3.drew)).mono ?_); rintro e w4 ⟨rfl, b4⟩; have D4 : Below w3.heap.size w3 w4 := ((Below.refl _ w3).drew).trans b4; obtain ⟨x0, x1, _, _⟩ := buf_cells ((D4.block _ l3).trans H3.out))
      | (go_at_call 26; (with_reducible refine (F2.out w4 (HU.out.later (B3.trans (D4.mono B3.size)))).mono ?_); rintro e w5 ⟨rfl, b5⟩; have D5 : Below w3.heap.size w3 w5 := D4.trans (b5.mono D4.size); obtain ⟨y0, y1, _, _⟩ := buf_cells ((D5.block _ l3).trans H3.out)))
    have B5 := B3.trans (D5.mono B3.size)
    have h5 := (D5.block _ l3).trans H3.out
    have l5 := lt_of_heap h5
    have H5 := Lib.hid h5
    have hwl2 : w2.heap.size < w5.heap.size := l5
    clear h5 c0 c1 x0 x1 D5 D4 b4 b5
    have i1 : decide ((x : Int) < (p : Int)) = false := by simp; omega
    have i2 : decide ((n : Int) < (x : Int)) = false := by simp; omega
    have i1' : decide (x < p) = false := by simp; omega
    have i2' : decide (n < x) = false := by simp; omega
    have hrest : ∀ (w6 : World), Below w5.heap.size w5 w6 → True := fun _ _ => trivial
    rcases HC.out with ⟨_, h0⟩ | ⟨_, h0, hn1⟩
    · have d1 : decide ((0 : Int) < (x : Int)) = false := by simp; omega
      have d1' : decide (0 < x) = false := by simp; omega
      rcases HD.out with ⟨_, h1⟩ | ⟨_, h1, hn2⟩
      · have d2 : decide ((x : Int) < (bq.size : Int)) = false := by simp; omega
        have d2' : decide (x < bq.size) = false := by simp; omega
        clear h0 h1
        go_wp2_with fail
        refine wp_region_held_drew (S := fun w' => w'.cell? ⟨w2.heap.size, 0, none⟩ = some (.string bq) ∧ w'.cell? ⟨w2.heap.size, 1, none⟩ = some (.int .i64 x)) (by kernel_rfl) ⟨y0, y1⟩ (fun hHeld => ?_)
        refine wpAnyH_take (i := 0) (oi := { dst := some 28, op := Op.fieldAddr 25 (Operand.tmp 5) 1, type := 0, pos := "law.go:102", after := #[], guard := none }) (v := ?_) rfl (by kernel_rfl) (by kernel_rfl) (by kernel_rfl) (fun _ _ _ h => h) (Or.inl ⟨by rfl, ?hy0⟩) (by assumption) ?_
        case hy0 => (intro w hSw; (try dsimp only at hSw); go_simp); (try with_reducible rfl)
        try simp only [Act.put, List.setIfInBounds_toArray, List.set_cons_zero, List.set_cons_succ]
        refine wpAnyH_take (i := 1) (oi := { dst := some 29, op := Op.load 3 (Operand.tmp 28), type := 3, pos := "law.go:102", after := #[{ on := 0, ground := Ground.data }], guard := none }) (v := ?_) rfl (by kernel_rfl) (by kernel_rfl) (by kernel_rfl) (fun _ _ _ h => h) (Or.inl ⟨by rfl, ?hy1⟩) (by assumption) ?_
        case hy1 => (intro w hSw; (try dsimp only at hSw); go_simp); (try with_reducible rfl)
        try simp only [Act.put, List.setIfInBounds_toArray, List.set_cons_zero, List.set_cons_succ]
        refine wpAnyH_take (i := 2) (oi := { dst := some 30, op := Op.binOp BinOp.gtr 3 (Operand.tmp 29) (Operand.const (Value.int IntKind.i64 0)) 3, type := 4, pos := "law.go:102", after := #[{ on := 1, ground := Ground.data }], guard := none }) (v := ?_) rfl (by kernel_rfl) (by kernel_rfl) (by kernel_rfl) (fun _ _ _ h => h) (Or.inl ⟨by rfl, ?hy2⟩) (by assumption) ?_
        case hy2 => (intro w hSw; (try dsimp only at hSw); go_simp); (try with_reducible rfl)
        try simp only [Act.put, List.setIfInBounds_toArray, List.set_cons_zero, List.set_cons_succ]
        refine wpAnyH_take (i := 3) (oi := { dst := some 31, op := Op.move (Operand.tmp 30), type := 4, pos := "law.go:102", after := #[{ on := 2, ground := Ground.data }], guard := none }) (v := ?_) rfl (by kernel_rfl) (by kernel_rfl) (by kernel_rfl) (fun _ _ _ h => h) (Or.inl ⟨by rfl, ?hy3⟩) (by assumption) ?_
        case hy3 => (intro w hSw; (try dsimp only at hSw); go_simp); (try with_reducible rfl)
        try simp only [Act.put, List.setIfInBounds_toArray, List.set_cons_zero, List.set_cons_succ]
        refine wpAnyH_take (i := 4) (oi := { dst := some 32, op := Op.fieldAddr 25 (Operand.tmp 5) 0, type := 0, pos := "law.go:102", after := #[{ on := 3, ground := Ground.guard }], guard := some (3, true) }) (v := undef) rfl (by kernel_rfl) (by kernel_rfl) (by kernel_rfl) (fun _ _ _ h => h) (Or.inr ⟨by rfl, rfl⟩) (by assumption) ?_
        try simp only [Act.put, List.setIfInBounds_toArray, List.set_cons_zero, List.set_cons_succ]
        refine wpAnyH_take (i := 5) (oi := { dst := some 33, op := Op.load 9 (Operand.tmp 32), type := 9, pos := "law.go:102", after := #[{ on := 4, ground := Ground.data }, { on := 3, ground := Ground.guard }], guard := some (3, true) }) (v := undef) rfl (by kernel_rfl) (by kernel_rfl) (by kernel_rfl) (fun _ _ _ h => h) (Or.inr ⟨by rfl, rfl⟩) (by assumption) ?_
        try simp only [Act.put, List.setIfInBounds_toArray, List.set_cons_zero, List.set_cons_succ]
        refine wpAnyH_take (i := 6) (oi := { dst := some 34, op := Op.move (Operand.tmp 6), type := 3, pos := "law.go:102", after := #[{ on := 3, ground := Ground.guard }], guard := some (3, true) }) (v := undef) rfl (by kernel_rfl) (by kernel_rfl) (by kernel_rfl) (fun _ _ _ h => h) (Or.inr ⟨by rfl, rfl⟩) (by assumption) ?_
        try simp only [Act.put, List.setIfInBounds_toArray, List.set_cons_zero, List.set_cons_succ]
        refine wpAnyH_take (i := 7) (oi := { dst := some 35, op := Op.call { callee := Callee.value (Operand.func 26), args := #[Operand.tmp 33, Operand.tmp 34], argTypes := #[9, 3] }, type := 3, pos := "law.go:102", after := #[{ on := 5, ground := Ground.data }, { on := 6, ground := Ground.data }, { on := 3, ground := Ground.chain }, { on := 3, ground := Ground.guard }], guard := some (3, true) }) (v := undef) rfl (by kernel_rfl) (by kernel_rfl) (by kernel_rfl) (fun _ _ _ h => h) (Or.inr ⟨by rfl, rfl⟩) (by assumption) ?_
        try simp only [Act.put, List.setIfInBounds_toArray, List.set_cons_zero, List.set_cons_succ]
        refine wpAnyH_take (i := 8) (oi := { dst := some 36, op := Op.fieldAddr 25 (Operand.tmp 5) 1, type := 0, pos := "law.go:102", after := #[{ on := 3, ground := Ground.guard }], guard := some (3, true) }) (v := undef) rfl (by kernel_rfl) (by kernel_rfl) (by kernel_rfl) (fun _ _ _ h => h) (Or.inr ⟨by rfl, rfl⟩) (by assumption) ?_
        try simp only [Act.put, List.setIfInBounds_toArray, List.set_cons_zero, List.set_cons_succ]
        refine wpAnyH_take (i := 9) (oi := { dst := some 37, op := Op.load 3 (Operand.tmp 36), type := 3, pos := "law.go:102", after := #[{ on := 8, ground := Ground.data }, { on := 3, ground := Ground.guard }], guard := some (3, true) }) (v := undef) rfl (by kernel_rfl) (by kernel_rfl) (by kernel_rfl) (fun _ _ _ h => h) (Or.inr ⟨by rfl, rfl⟩) (by assumption) ?_
        try simp only [Act.put, List.setIfInBounds_toArray, List.set_cons_zero, List.set_cons_succ]
        refine wpAnyH_take (i := 10) (oi := { dst := some 38, op := Op.binOp BinOp.neq 3 (Operand.tmp 35) (Operand.tmp 37) 3, type := 4, pos := "law.go:102", after := #[{ on := 7, ground := Ground.data }, { on := 9, ground := Ground.data }, { on := 3, ground := Ground.guard }], guard := some (3, true) }) (v := undef) rfl (by kernel_rfl) (by kernel_rfl) (by kernel_rfl) (fun _ _ _ h => h) (Or.inr ⟨by rfl, rfl⟩) (by assumption) ?_
        try simp only [Act.put, List.setIfInBounds_toArray, List.set_cons_zero, List.set_cons_succ]
        refine wpAnyH_take (i := 11) (oi := { dst := some 39, op := Op.pick (Operand.tmp 31) (Operand.tmp 38) (Operand.const (Value.bool false)), type := 4, pos := "law.go:102", after := #[{ on := 3, ground := Ground.data }, { on := 10, ground := Ground.data }], guard := none }) (v := ?_) rfl (by kernel_rfl) (by kernel_rfl) (by kernel_rfl) (fun _ _ _ h => h) (Or.inl ⟨by rfl, ?hy11⟩) (by assumption) ?_
        case hy11 => (intro w hSw; (try dsimp only at hSw); go_simp); (try with_reducible rfl)
        try simp only [Act.put, List.setIfInBounds_toArray, List.set_cons_zero, List.set_cons_succ]
        refine wpAnyH_take (i := 12) (oi := { dst := some 40, op := Op.move (Operand.tmp 39), type := 4, pos := "law.go:102", after := #[{ on := 11, ground := Ground.data }, { on := 7, ground := Ground.chain }], guard := none }) (v := ?_) rfl (by kernel_rfl) (by kernel_rfl) (by kernel_rfl) (fun _ _ _ h => h) (Or.inl ⟨by rfl, ?hy12⟩) (by assumption) ?_
        case hy12 => (intro w hSw; (try dsimp only at hSw); go_simp); (try with_reducible rfl)
        try simp only [Act.put, List.setIfInBounds_toArray, List.set_cons_zero, List.set_cons_succ]
        refine wpAnyH_take (i := 13) (oi := { dst := some 41, op := Op.fieldAddr 25 (Operand.tmp 5) 1, type := 0, pos := "law.go:102", after := #[{ on := 12, ground := Ground.guard }], guard := some (12, false) }) (v := ?_) rfl (by kernel_rfl) (by kernel_rfl) (by kernel_rfl) (fun _ _ _ h => h) (Or.inl ⟨by rfl, ?hy13⟩) (by assumption) ?_
        case hy13 => (intro w hSw; (try dsimp only at hSw); go_simp); (try with_reducible rfl)
        try simp only [Act.put, List.setIfInBounds_toArray, List.set_cons_zero, List.set_cons_succ]
        refine wpAnyH_take (i := 14) (oi := { dst := some 42, op := Op.load 3 (Operand.tmp 41), type := 3, pos := "law.go:102", after := #[{ on := 13, ground := Ground.data }, { on := 12, ground := Ground.guard }], guard := some (12, false) }) (v := ?_) rfl (by kernel_rfl) (by kernel_rfl) (by kernel_rfl) (fun _ _ _ h => h) (Or.inl ⟨by rfl, ?hy14⟩) (by assumption) ?_
        case hy14 => (intro w hSw; (try dsimp only at hSw); go_simp); (try with_reducible rfl)
        try simp only [Act.put, List.setIfInBounds_toArray, List.set_cons_zero, List.set_cons_succ]
        refine wpAnyH_take (i := 15) (oi := { dst := some 43, op := Op.fieldAddr 25 (Operand.tmp 5) 0, type := 0, pos := "law.go:102", after := #[{ on := 12, ground := Ground.guard }], guard := some (12, false) }) (v := ?_) rfl (by kernel_rfl) (by kernel_rfl) (by kernel_rfl) (fun _ _ _ h => h) (Or.inl ⟨by rfl, ?hy15⟩) (by assumption) ?_
        case hy15 => (intro w hSw; (try dsimp only at hSw); go_simp); (try with_reducible rfl)
        try simp only [Act.put, List.setIfInBounds_toArray, List.set_cons_zero, List.set_cons_succ]
        refine wpAnyH_take (i := 16) (oi := { dst := some 44, op := Op.load 9 (Operand.tmp 43), type := 9, pos := "law.go:102", after := #[{ on := 15, ground := Ground.data }, { on := 12, ground := Ground.guard }], guard := some (12, false) }) (v := ?_) rfl (by kernel_rfl) (by kernel_rfl) (by kernel_rfl) (fun _ _ _ h => h) (Or.inl ⟨by rfl, ?hy16⟩) (by assumption) ?_
        case hy16 => (intro w hSw; (try dsimp only at hSw); go_simp); (try with_reducible rfl)
        try simp only [Act.put, List.setIfInBounds_toArray, List.set_cons_zero, List.set_cons_succ]
        refine wpAnyH_take (i := 17) (oi := { dst := some 45, op := Op.call { callee := Callee.builtin Builtin.len, args := #[Operand.tmp 44], argTypes := #[9] }, type := 3, pos := "law.go:102", after := #[{ on := 16, ground := Ground.data }, { on := 12, ground := Ground.guard }], guard := some (12, false) }) (v := ?_) rfl (by kernel_rfl) (by kernel_rfl) (by kernel_rfl) (fun _ _ _ h => h) (Or.inl ⟨by rfl, ?hy17⟩) (by assumption) ?_
        case hy17 => (intro w hSw; (try dsimp only at hSw); go_simp); (try with_reducible rfl)
        try simp only [Act.put, List.setIfInBounds_toArray, List.set_cons_zero, List.set_cons_succ]
        refine wpAnyH_take (i := 18) (oi := { dst := some 46, op := Op.binOp BinOp.lss 3 (Operand.tmp 42) (Operand.tmp 45) 3, type := 4, pos := "law.go:102", after := #[{ on := 14, ground := Ground.data }, { on := 17, ground := Ground.data }, { on := 12, ground := Ground.guard }], guard := some (12, false) }) (v := ?_) rfl (by kernel_rfl) (by kernel_rfl) (by kernel_rfl) (fun _ _ _ h => h) (Or.inl ⟨by rfl, ?hy18⟩) (by assumption) ?_
        case hy18 => (intro w hSw; (try dsimp only at hSw); go_simp); (try with_reducible rfl)
        try simp only [Act.put, List.setIfInBounds_toArray, List.set_cons_zero, List.set_cons_succ]
        refine wpAnyH_take (i := 19) (oi := { dst := some 47, op := Op.move (Operand.tmp 46), type := 4, pos := "law.go:102", after := #[{ on := 18, ground := Ground.data }, { on := 12, ground := Ground.chain }, { on := 12, ground := Ground.guard }], guard := some (12, false) }) (v := ?_) rfl (by kernel_rfl) (by kernel_rfl) (by kernel_rfl) (fun _ _ _ h => h) (Or.inl ⟨by rfl, ?hy19⟩) (by assumption) ?_
        case hy19 => (intro w hSw; (try dsimp only at hSw); go_simp); (try with_reducible rfl)
        try simp only [Act.put, List.setIfInBounds_toArray, List.set_cons_zero, List.set_cons_succ]
        refine wpAnyH_take (i := 20) (oi := { dst := some 48, op := Op.fieldAddr 25 (Operand.tmp 5) 0, type := 0, pos := "law.go:102", after := #[{ on := 19, ground := Ground.guard }], guard := some (19, true) }) (v := undef) rfl (by kernel_rfl) (by kernel_rfl) (by kernel_rfl) (fun _ _ _ h => h) (Or.inr ⟨by rfl, rfl⟩) (by assumption) ?_
        try simp only [Act.put, List.setIfInBounds_toArray, List.set_cons_zero, List.set_cons_succ]
        refine wpAnyH_take (i := 21) (oi := { dst := some 49, op := Op.load 9 (Operand.tmp 48), type := 9, pos := "law.go:102", after := #[{ on := 20, ground := Ground.data }, { on := 19, ground := Ground.guard }], guard := some (19, true) }) (v := undef) rfl (by kernel_rfl) (by kernel_rfl) (by kernel_rfl) (fun _ _ _ h => h) (Or.inr ⟨by rfl, rfl⟩) (by assumption) ?_
        try simp only [Act.put, List.setIfInBounds_toArray, List.set_cons_zero, List.set_cons_succ]
        refine wpAnyH_take (i := 22) (oi := { dst := some 50, op := Op.move (Operand.tmp 7), type := 3, pos := "law.go:102", after := #[{ on := 19, ground := Ground.guard }], guard := some (19, true) }) (v := undef) rfl (by kernel_rfl) (by kernel_rfl) (by kernel_rfl) (fun _ _ _ h => h) (Or.inr ⟨by rfl, rfl⟩) (by assumption) ?_
        try simp only [Act.put, List.setIfInBounds_toArray, List.set_cons_zero, List.set_cons_succ]
        refine wpAnyH_take (i := 23) (oi := { dst := some 51, op := Op.call { callee := Callee.value (Operand.func 25), args := #[Operand.tmp 49, Operand.tmp 50], argTypes := #[9, 3] }, type := 3, pos := "law.go:102", after := #[{ on := 21, ground := Ground.data }, { on := 22, ground := Ground.data }, { on := 19, ground := Ground.chain }, { on := 19, ground := Ground.guard }], guard := some (19, true) }) (v := undef) rfl (by kernel_rfl) (by kernel_rfl) (by kernel_rfl) (fun _ _ _ h => h) (Or.inr ⟨by rfl, rfl⟩) (by assumption) ?_
        try simp only [Act.put, List.setIfInBounds_toArray, List.set_cons_zero, List.set_cons_succ]
        refine wpAnyH_take (i := 24) (oi := { dst := some 52, op := Op.fieldAddr 25 (Operand.tmp 5) 1, type := 0, pos := "law.go:102", after := #[{ on := 19, ground := Ground.guard }], guard := some (19, true) }) (v := undef) rfl (by kernel_rfl) (by kernel_rfl) (by kernel_rfl) (fun _ _ _ h => h) (Or.inr ⟨by rfl, rfl⟩) (by assumption) ?_
        try simp only [Act.put, List.setIfInBounds_toArray, List.set_cons_zero, List.set_cons_succ]
        refine wpAnyH_take (i := 25) (oi := { dst := some 53, op := Op.load 3 (Operand.tmp 52), type := 3, pos := "law.go:102", after := #[{ on := 24, ground := Ground.data }, { on := 19, ground := Ground.guard }], guard := some (19, true) }) (v := undef) rfl (by kernel_rfl) (by kernel_rfl) (by kernel_rfl) (fun _ _ _ h => h) (Or.inr ⟨by rfl, rfl⟩) (by assumption) ?_
        try simp only [Act.put, List.setIfInBounds_toArray, List.set_cons_zero, List.set_cons_succ]
        refine wpAnyH_take (i := 26) (oi := { dst := some 54, op := Op.binOp BinOp.neq 3 (Operand.tmp 51) (Operand.tmp 53) 3, type := 4, pos := "law.go:102", after := #[{ on := 23, ground := Ground.data }, { on := 25, ground := Ground.data }, { on := 19, ground := Ground.guard }], guard := some (19, true) }) (v := undef) rfl (by kernel_rfl) (by kernel_rfl) (by kernel_rfl) (fun _ _ _ h => h) (Or.inr ⟨by rfl, rfl⟩) (by assumption) ?_
        try simp only [Act.put, List.setIfInBounds_toArray, List.set_cons_zero, List.set_cons_succ]
        refine wpAnyH_take (i := 27) (oi := { dst := some 55, op := Op.pick (Operand.tmp 47) (Operand.tmp 54) (Operand.const (Value.bool false)), type := 4, pos := "law.go:102", after := #[{ on := 19, ground := Ground.data }, { on := 26, ground := Ground.data }, { on := 12, ground := Ground.guard }], guard := some (12, false) }) (v := ?_) rfl (by kernel_rfl) (by kernel_rfl) (by kernel_rfl) (fun _ _ _ h => h) (Or.inl ⟨by rfl, ?hy27⟩) (by assumption) ?_
        case hy27 => (intro w hSw; (try dsimp only at hSw); go_simp); (try with_reducible rfl)
        try simp only [Act.put, List.setIfInBounds_toArray, List.set_cons_zero, List.set_cons_succ]
        refine wpAnyH_take (i := 28) (oi := { dst := some 56, op := Op.pick (Operand.tmp 40) (Operand.const (Value.bool true)) (Operand.tmp 55), type := 4, pos := "law.go:102", after := #[{ on := 12, ground := Ground.data }, { on := 27, ground := Ground.data }], guard := none }) (v := ?_) rfl (by kernel_rfl) (by kernel_rfl) (by kernel_rfl) (fun _ _ _ h => h) (Or.inl ⟨by rfl, ?hy28⟩) (by assumption) ?_
        case hy28 => (intro w hSw; (try dsimp only at hSw); go_simp); (try with_reducible rfl)
        try simp only [Act.put, List.setIfInBounds_toArray, List.set_cons_zero, List.set_cons_succ]
        refine wpAnyH_take (i := 29) (oi := { dst := some 57, op := Op.move (Operand.tmp 56), type := 4, pos := "law.go:102", after := #[{ on := 28, ground := Ground.data }, { on := 23, ground := Ground.chain }], guard := none }) (v := ?_) rfl (by kernel_rfl) (by kernel_rfl) (by kernel_rfl) (fun _ _ _ h => h) (Or.inl ⟨by rfl, ?hy29⟩) (by assumption) ?_
        case hy29 => (intro w hSw; (try dsimp only at hSw); go_simp); (try with_reducible rfl)
        try simp only [Act.put, List.setIfInBounds_toArray, List.set_cons_zero, List.set_cons_succ]
        refine wpAnyH_take (i := 30) (oi := { dst := some 58, op := Op.move (Operand.tmp 6), type := 3, pos := "law.go:102", after := #[{ on := 29, ground := Ground.guard }], guard := some (29, false) }) (v := ?_) rfl (by kernel_rfl) (by kernel_rfl) (by kernel_rfl) (fun _ _ _ h => h) (Or.inl ⟨by rfl, ?hy30⟩) (by assumption) ?_
        case hy30 => (intro w hSw; (try dsimp only at hSw); go_simp); (try with_reducible rfl)
        try simp only [Act.put, List.setIfInBounds_toArray, List.set_cons_zero, List.set_cons_succ]
        refine wpAnyH_take (i := 31) (oi := { dst := some 59, op := Op.fieldAddr 25 (Operand.tmp 5) 1, type := 0, pos := "law.go:102", after := #[{ on := 29, ground := Ground.guard }], guard := some (29, false) }) (v := ?_) rfl (by kernel_rfl) (by kernel_rfl) (by kernel_rfl) (fun _ _ _ h => h) (Or.inl ⟨by rfl, ?hy31⟩) (by assumption) ?_
        case hy31 => (intro w hSw; (try dsimp only at hSw); go_simp); (try with_reducible rfl)
        try simp only [Act.put, List.setIfInBounds_toArray, List.set_cons_zero, List.set_cons_succ]
        refine wpAnyH_take (i := 32) (oi := { dst := some 60, op := Op.load 3 (Operand.tmp 59), type := 3, pos := "law.go:102", after := #[{ on := 31, ground := Ground.data }, { on := 29, ground := Ground.guard }], guard := some (29, false) }) (v := ?_) rfl (by kernel_rfl) (by kernel_rfl) (by kernel_rfl) (fun _ _ _ h => h) (Or.inl ⟨by rfl, ?hy32⟩) (by assumption) ?_
        case hy32 => (intro w hSw; (try dsimp only at hSw); go_simp); (try with_reducible rfl)
        try simp only [Act.put, List.setIfInBounds_toArray, List.set_cons_zero, List.set_cons_succ]
        refine wpAnyH_take (i := 33) (oi := { dst := some 61, op := Op.binOp BinOp.gtr 3 (Operand.tmp 58) (Operand.tmp 60) 3, type := 4, pos := "law.go:102", after := #[{ on := 30, ground := Ground.data }, { on := 32, ground := Ground.data }, { on := 29, ground := Ground.guard }], guard := some (29, false) }) (v := ?_) rfl (by kernel_rfl) (by kernel_rfl) (by kernel_rfl) (fun _ _ _ h => h) (Or.inl ⟨by rfl, ?hy33⟩) (by assumption) ?_
        case hy33 => (intro w hSw; (try dsimp only at hSw); go_simp); (try with_reducible rfl)
        try simp only [Act.put, List.setIfInBounds_toArray, List.set_cons_zero, List.set_cons_succ]
        refine wpAnyH_take (i := 34) (oi := { dst := some 62, op := Op.pick (Operand.tmp 57) (Operand.const (Value.bool true)) (Operand.tmp 61), type := 4, pos := "law.go:102", after := #[{ on := 29, ground := Ground.data }, { on := 33, ground := Ground.data }], guard := none }) (v := ?_) rfl (by kernel_rfl) (by kernel_rfl) (by kernel_rfl) (fun _ _ _ h => h) (Or.inl ⟨by rfl, ?hy34⟩) (by assumption) ?_
        case hy34 => (intro w hSw; (try dsimp only at hSw); go_simp); (try with_reducible rfl)
        try simp only [Act.put, List.setIfInBounds_toArray, List.set_cons_zero, List.set_cons_succ]
        refine wpAnyH_take (i := 35) (oi := { dst := some 63, op := Op.move (Operand.tmp 62), type := 4, pos := "law.go:102", after := #[{ on := 34, ground := Ground.data }, { on := 29, ground := Ground.chain }], guard := none }) (v := ?_) rfl (by kernel_rfl) (by kernel_rfl) (by kernel_rfl) (fun _ _ _ h => h) (Or.inl ⟨by rfl, ?hy35⟩) (by assumption) ?_
        case hy35 => (intro w hSw; (try dsimp only at hSw); go_simp); (try with_reducible rfl)
        try simp only [Act.put, List.setIfInBounds_toArray, List.set_cons_zero, List.set_cons_succ]
        refine wpAnyH_take (i := 36) (oi := { dst := some 64, op := Op.move (Operand.tmp 7), type := 3, pos := "law.go:102", after := #[{ on := 35, ground := Ground.guard }], guard := some (35, false) }) (v := ?_) rfl (by kernel_rfl) (by kernel_rfl) (by kernel_rfl) (fun _ _ _ h => h) (Or.inl ⟨by rfl, ?hy36⟩) (by assumption) ?_
        case hy36 => (intro w hSw; (try dsimp only at hSw); go_simp); (try with_reducible rfl)
        try simp only [Act.put, List.setIfInBounds_toArray, List.set_cons_zero, List.set_cons_succ]
        refine wpAnyH_take (i := 37) (oi := { dst := some 65, op := Op.fieldAddr 25 (Operand.tmp 5) 1, type := 0, pos := "law.go:102", after := #[{ on := 35, ground := Ground.guard }], guard := some (35, false) }) (v := ?_) rfl (by kernel_rfl) (by kernel_rfl) (by kernel_rfl) (fun _ _ _ h => h) (Or.inl ⟨by rfl, ?hy37⟩) (by assumption) ?_
        case hy37 => (intro w hSw; (try dsimp only at hSw); go_simp); (try with_reducible rfl)
        try simp only [Act.put, List.setIfInBounds_toArray, List.set_cons_zero, List.set_cons_succ]
        refine wpAnyH_take (i := 38) (oi := { dst := some 66, op := Op.load 3 (Operand.tmp 65), type := 3, pos := "law.go:102", after := #[{ on := 37, ground := Ground.data }, { on := 35, ground := Ground.guard }], guard := some (35, false) }) (v := ?_) rfl (by kernel_rfl) (by kernel_rfl) (by kernel_rfl) (fun _ _ _ h => h) (Or.inl ⟨by rfl, ?hy38⟩) (by assumption) ?_
        case hy38 => (intro w hSw; (try dsimp only at hSw); go_simp); (try with_reducible rfl)
        try simp only [Act.put, List.setIfInBounds_toArray, List.set_cons_zero, List.set_cons_succ]
        refine wpAnyH_take (i := 39) (oi := { dst := some 67, op := Op.binOp BinOp.lss 3 (Operand.tmp 64) (Operand.tmp 66) 3, type := 4, pos := "law.go:102", after := #[{ on := 36, ground := Ground.data }, { on := 38, ground := Ground.data }, { on := 35, ground := Ground.guard }], guard := some (35, false) }) (v := ?_) rfl (by kernel_rfl) (by kernel_rfl) (by kernel_rfl) (fun _ _ _ h => h) (Or.inl ⟨by rfl, ?hy39⟩) (by assumption) ?_
        case hy39 => (intro w hSw; (try dsimp only at hSw); go_simp); (try with_reducible rfl)
        try simp only [Act.put, List.setIfInBounds_toArray, List.set_cons_zero, List.set_cons_succ]
        refine wpAnyH_take (i := 40) (oi := { dst := some 68, op := Op.pick (Operand.tmp 63) (Operand.const (Value.bool true)) (Operand.tmp 67), type := 4, pos := "law.go:102", after := #[{ on := 35, ground := Ground.data }, { on := 39, ground := Ground.data }], guard := none }) (v := ?_) rfl (by kernel_rfl) (by kernel_rfl) (by kernel_rfl) (fun _ _ _ h => h) (Or.inl ⟨by rfl, ?hy40⟩) (by assumption) ?_
        case hy40 => (intro w hSw; (try dsimp only at hSw); go_simp); (try with_reducible rfl)
        try simp only [Act.put, List.setIfInBounds_toArray, List.set_cons_zero, List.set_cons_succ]
        refine wpAnyH_done (by kernel_rfl) ?_ _
        have DE : Below w5.heap.size w5 w5.drew := ((Below.refl _ w5).drew)
        obtain ⟨v9, hv9⟩ : ∃ W, W = w5.drew := ⟨_, rfl⟩
        rw [← hv9] at DE ⊢
        clear hv9
        clear y0 y1
        obtain ⟨u0, u1, _, _⟩ := buf_cells ((DE.block _ l5).trans H5.out)
        have h9 := (DE.block _ l5).trans H5.out
        have H9 := Lib.hid h9
        have l9 := lt_of_heap h9
        have B9 := B5.trans (DE.mono B5.size)
        clear h9 DE
        go_wp2_with fail
        go_region_held3 (fun w' => w'.cell? ⟨w2.heap.size, 0, none⟩ = some (.string bq) ∧ w'.cell? ⟨w2.heap.size, 1, none⟩ = some (.int .i64 x)) (first | exact ⟨u0, u1⟩ | exact ⟨r0, r1⟩ | exact ⟨t0, t1⟩) (first
          | (go_at_call 27; (with_reducible refine (F3.out v9.drew (HU.out.later B9.drew)).mono ?_); rintro e wa ⟨rfl, ba⟩; have DA : Below v9.heap.size v9 wa := ((Below.refl _ v9).drew).trans ba; obtain ⟨r0, r1, _, _⟩ := buf_cells ((DA.block _ l9).trans H9.out))
          | (go_at_call 28; (with_reducible refine (F4.out wa (HU.out.later (B9.trans (DA.mono B9.size)))).mono ?_); rintro e wb ⟨rfl, bb⟩; have DB : Below v9.heap.size v9 wb := DA.trans (bb.mono DA.size); obtain ⟨t0, t1, _, _⟩ := buf_cells ((DB.block _ l9).trans H9.out)))
        have BB := B9.trans (DB.mono B9.size)
        have hB := (DB.block _ l9).trans H9.out
        have HBB := Lib.hid hB
        have lB := lt_of_heap hB
        clear hB
        go_wp2_with fail
        refine (AL.out wb (HU.out.later BB)).mono ?_
        rintro e wc ⟨rfl, bc⟩
        have BC := BB.trans (bc.mono BB.size)
        have hC := (bc.block _ lB).trans HBB.out
        obtain ⟨m0, m1, _, _⟩ := buf_cells hC
        have HCC := Lib.hid hC
        have lC := lt_of_heap hC
        clear hC
        have e1 : decide ((0 : Int) ≤ (lf : Int)) = true := by simp
        have e2 : decide ((lf : Int) ≤ (p : Int)) = true := by simp; omega
        have e2' : decide (lf ≤ p) = true := by simp; omega
        have e3 : decide ((n : Int) ≤ (rt : Int)) = true := by simp; omega
        have e3' : decide (n ≤ rt) = true := by simp; omega
        have e4 : decide ((rt : Int) ≤ (bq.size : Int)) = true := by simp; omega
        have e4' : decide (rt ≤ bq.size) = true := by simp; omega
        go_wp2_with fail
        refine (F5.out wc (HU.out.later BC)).mono ?_
        rintro e wd ⟨rfl, bd⟩
        have BD := BC.trans (bd.mono BC.size)
        obtain ⟨n0, n1, _, _⟩ := buf_cells ((bd.block _ lC).trans HCC.out)
        clear m0 m1
        go_wp2_with fail
        refine (F6.out wd (HU.out.later BD)).mono ?_
        rintro e we ⟨rfl, be⟩
        go_wp2
        go_ret
        exact ⟨rfl, BD.trans (be.mono BD.size)⟩
      · have d2 : decide ((x : Int) < (bq.size : Int)) = true := by simp; omega
        have d2' : decide (x < bq.size) = true := by simp; omega
        have F8' := Lib.hid (by have := F8.out; rw [hn2] at this; exact this)
        clear h0 h1 hn2
        go_wp2_with fail
        refine wp_region_held_drew (S := fun w' => w'.cell? ⟨w2.heap.size, 0, none⟩ = some (.string bq) ∧ w'.cell? ⟨w2.heap.size, 1, none⟩ = some (.int .i64 x)) (by kernel_rfl) ⟨y0, y1⟩ (fun hHeld => ?_)
        refine wpAnyH_take (i := 0) (oi := { dst := some 28, op := Op.fieldAddr 25 (Operand.tmp 5) 1, type := 0, pos := "law.go:102", after := #[], guard := none }) (v := ?_) rfl (by kernel_rfl) (by kernel_rfl) (by kernel_rfl) (fun _ _ _ h => h) (Or.inl ⟨by rfl, ?hy0⟩) (by assumption) ?_
        case hy0 => (intro w hSw; (try dsimp only at hSw); go_simp); (try with_reducible rfl)
        try simp only [Act.put, List.setIfInBounds_toArray, List.set_cons_zero, List.set_cons_succ]
        refine wpAnyH_take (i := 1) (oi := { dst := some 29, op := Op.load 3 (Operand.tmp 28), type := 3, pos := "law.go:102", after := #[{ on := 0, ground := Ground.data }], guard := none }) (v := ?_) rfl (by kernel_rfl) (by kernel_rfl) (by kernel_rfl) (fun _ _ _ h => h) (Or.inl ⟨by rfl, ?hy1⟩) (by assumption) ?_
        case hy1 => (intro w hSw; (try dsimp only at hSw); go_simp); (try with_reducible rfl)
        try simp only [Act.put, List.setIfInBounds_toArray, List.set_cons_zero, List.set_cons_succ]
        refine wpAnyH_take (i := 2) (oi := { dst := some 30, op := Op.binOp BinOp.gtr 3 (Operand.tmp 29) (Operand.const (Value.int IntKind.i64 0)) 3, type := 4, pos := "law.go:102", after := #[{ on := 1, ground := Ground.data }], guard := none }) (v := ?_) rfl (by kernel_rfl) (by kernel_rfl) (by kernel_rfl) (fun _ _ _ h => h) (Or.inl ⟨by rfl, ?hy2⟩) (by assumption) ?_
        case hy2 => (intro w hSw; (try dsimp only at hSw); go_simp); (try with_reducible rfl)
        try simp only [Act.put, List.setIfInBounds_toArray, List.set_cons_zero, List.set_cons_succ]
        refine wpAnyH_take (i := 3) (oi := { dst := some 31, op := Op.move (Operand.tmp 30), type := 4, pos := "law.go:102", after := #[{ on := 2, ground := Ground.data }], guard := none }) (v := ?_) rfl (by kernel_rfl) (by kernel_rfl) (by kernel_rfl) (fun _ _ _ h => h) (Or.inl ⟨by rfl, ?hy3⟩) (by assumption) ?_
        case hy3 => (intro w hSw; (try dsimp only at hSw); go_simp); (try with_reducible rfl)
        try simp only [Act.put, List.setIfInBounds_toArray, List.set_cons_zero, List.set_cons_succ]
        refine wpAnyH_take (i := 4) (oi := { dst := some 32, op := Op.fieldAddr 25 (Operand.tmp 5) 0, type := 0, pos := "law.go:102", after := #[{ on := 3, ground := Ground.guard }], guard := some (3, true) }) (v := undef) rfl (by kernel_rfl) (by kernel_rfl) (by kernel_rfl) (fun _ _ _ h => h) (Or.inr ⟨by rfl, rfl⟩) (by assumption) ?_
        try simp only [Act.put, List.setIfInBounds_toArray, List.set_cons_zero, List.set_cons_succ]
        refine wpAnyH_take (i := 5) (oi := { dst := some 33, op := Op.load 9 (Operand.tmp 32), type := 9, pos := "law.go:102", after := #[{ on := 4, ground := Ground.data }, { on := 3, ground := Ground.guard }], guard := some (3, true) }) (v := undef) rfl (by kernel_rfl) (by kernel_rfl) (by kernel_rfl) (fun _ _ _ h => h) (Or.inr ⟨by rfl, rfl⟩) (by assumption) ?_
        try simp only [Act.put, List.setIfInBounds_toArray, List.set_cons_zero, List.set_cons_succ]
        refine wpAnyH_take (i := 6) (oi := { dst := some 34, op := Op.move (Operand.tmp 6), type := 3, pos := "law.go:102", after := #[{ on := 3, ground := Ground.guard }], guard := some (3, true) }) (v := undef) rfl (by kernel_rfl) (by kernel_rfl) (by kernel_rfl) (fun _ _ _ h => h) (Or.inr ⟨by rfl, rfl⟩) (by assumption) ?_
        try simp only [Act.put, List.setIfInBounds_toArray, List.set_cons_zero, List.set_cons_succ]
        refine wpAnyH_take (i := 7) (oi := { dst := some 35, op := Op.call { callee := Callee.value (Operand.func 26), args := #[Operand.tmp 33, Operand.tmp 34], argTypes := #[9, 3] }, type := 3, pos := "law.go:102", after := #[{ on := 5, ground := Ground.data }, { on := 6, ground := Ground.data }, { on := 3, ground := Ground.chain }, { on := 3, ground := Ground.guard }], guard := some (3, true) }) (v := undef) rfl (by kernel_rfl) (by kernel_rfl) (by kernel_rfl) (fun _ _ _ h => h) (Or.inr ⟨by rfl, rfl⟩) (by assumption) ?_
        try simp only [Act.put, List.setIfInBounds_toArray, List.set_cons_zero, List.set_cons_succ]
        refine wpAnyH_take (i := 8) (oi := { dst := some 36, op := Op.fieldAddr 25 (Operand.tmp 5) 1, type := 0, pos := "law.go:102", after := #[{ on := 3, ground := Ground.guard }], guard := some (3, true) }) (v := undef) rfl (by kernel_rfl) (by kernel_rfl) (by kernel_rfl) (fun _ _ _ h => h) (Or.inr ⟨by rfl, rfl⟩) (by assumption) ?_
        try simp only [Act.put, List.setIfInBounds_toArray, List.set_cons_zero, List.set_cons_succ]
        refine wpAnyH_take (i := 9) (oi := { dst := some 37, op := Op.load 3 (Operand.tmp 36), type := 3, pos := "law.go:102", after := #[{ on := 8, ground := Ground.data }, { on := 3, ground := Ground.guard }], guard := some (3, true) }) (v := undef) rfl (by kernel_rfl) (by kernel_rfl) (by kernel_rfl) (fun _ _ _ h => h) (Or.inr ⟨by rfl, rfl⟩) (by assumption) ?_
        try simp only [Act.put, List.setIfInBounds_toArray, List.set_cons_zero, List.set_cons_succ]
        refine wpAnyH_take (i := 10) (oi := { dst := some 38, op := Op.binOp BinOp.neq 3 (Operand.tmp 35) (Operand.tmp 37) 3, type := 4, pos := "law.go:102", after := #[{ on := 7, ground := Ground.data }, { on := 9, ground := Ground.data }, { on := 3, ground := Ground.guard }], guard := some (3, true) }) (v := undef) rfl (by kernel_rfl) (by kernel_rfl) (by kernel_rfl) (fun _ _ _ h => h) (Or.inr ⟨by rfl, rfl⟩) (by assumption) ?_
        try simp only [Act.put, List.setIfInBounds_toArray, List.set_cons_zero, List.set_cons_succ]
        refine wpAnyH_take (i := 11) (oi := { dst := some 39, op := Op.pick (Operand.tmp 31) (Operand.tmp 38) (Operand.const (Value.bool false)), type := 4, pos := "law.go:102", after := #[{ on := 3, ground := Ground.data }, { on := 10, ground := Ground.data }], guard := none }) (v := ?_) rfl (by kernel_rfl) (by kernel_rfl) (by kernel_rfl) (fun _ _ _ h => h) (Or.inl ⟨by rfl, ?hy11⟩) (by assumption) ?_
        case hy11 => (intro w hSw; (try dsimp only at hSw); go_simp); (try with_reducible rfl)
        try simp only [Act.put, List.setIfInBounds_toArray, List.set_cons_zero, List.set_cons_succ]
        refine wpAnyH_take (i := 12) (oi := { dst := some 40, op := Op.move (Operand.tmp 39), type := 4, pos := "law.go:102", after := #[{ on := 11, ground := Ground.data }, { on := 7, ground := Ground.chain }], guard := none }) (v := ?_) rfl (by kernel_rfl) (by kernel_rfl) (by kernel_rfl) (fun _ _ _ h => h) (Or.inl ⟨by rfl, ?hy12⟩) (by assumption) ?_
        case hy12 => (intro w hSw; (try dsimp only at hSw); go_simp); (try with_reducible rfl)
        try simp only [Act.put, List.setIfInBounds_toArray, List.set_cons_zero, List.set_cons_succ]
        refine wpAnyH_take (i := 13) (oi := { dst := some 41, op := Op.fieldAddr 25 (Operand.tmp 5) 1, type := 0, pos := "law.go:102", after := #[{ on := 12, ground := Ground.guard }], guard := some (12, false) }) (v := ?_) rfl (by kernel_rfl) (by kernel_rfl) (by kernel_rfl) (fun _ _ _ h => h) (Or.inl ⟨by rfl, ?hy13⟩) (by assumption) ?_
        case hy13 => (intro w hSw; (try dsimp only at hSw); go_simp); (try with_reducible rfl)
        try simp only [Act.put, List.setIfInBounds_toArray, List.set_cons_zero, List.set_cons_succ]
        refine wpAnyH_take (i := 14) (oi := { dst := some 42, op := Op.load 3 (Operand.tmp 41), type := 3, pos := "law.go:102", after := #[{ on := 13, ground := Ground.data }, { on := 12, ground := Ground.guard }], guard := some (12, false) }) (v := ?_) rfl (by kernel_rfl) (by kernel_rfl) (by kernel_rfl) (fun _ _ _ h => h) (Or.inl ⟨by rfl, ?hy14⟩) (by assumption) ?_
        case hy14 => (intro w hSw; (try dsimp only at hSw); go_simp); (try with_reducible rfl)
        try simp only [Act.put, List.setIfInBounds_toArray, List.set_cons_zero, List.set_cons_succ]
        refine wpAnyH_take (i := 15) (oi := { dst := some 43, op := Op.fieldAddr 25 (Operand.tmp 5) 0, type := 0, pos := "law.go:102", after := #[{ on := 12, ground := Ground.guard }], guard := some (12, false) }) (v := ?_) rfl (by kernel_rfl) (by kernel_rfl) (by kernel_rfl) (fun _ _ _ h => h) (Or.inl ⟨by rfl, ?hy15⟩) (by assumption) ?_
        case hy15 => (intro w hSw; (try dsimp only at hSw); go_simp); (try with_reducible rfl)
        try simp only [Act.put, List.setIfInBounds_toArray, List.set_cons_zero, List.set_cons_succ]
        refine wpAnyH_take (i := 16) (oi := { dst := some 44, op := Op.load 9 (Operand.tmp 43), type := 9, pos := "law.go:102", after := #[{ on := 15, ground := Ground.data }, { on := 12, ground := Ground.guard }], guard := some (12, false) }) (v := ?_) rfl (by kernel_rfl) (by kernel_rfl) (by kernel_rfl) (fun _ _ _ h => h) (Or.inl ⟨by rfl, ?hy16⟩) (by assumption) ?_
        case hy16 => (intro w hSw; (try dsimp only at hSw); go_simp); (try with_reducible rfl)
        try simp only [Act.put, List.setIfInBounds_toArray, List.set_cons_zero, List.set_cons_succ]
        refine wpAnyH_take (i := 17) (oi := { dst := some 45, op := Op.call { callee := Callee.builtin Builtin.len, args := #[Operand.tmp 44], argTypes := #[9] }, type := 3, pos := "law.go:102", after := #[{ on := 16, ground := Ground.data }, { on := 12, ground := Ground.guard }], guard := some (12, false) }) (v := ?_) rfl (by kernel_rfl) (by kernel_rfl) (by kernel_rfl) (fun _ _ _ h => h) (Or.inl ⟨by rfl, ?hy17⟩) (by assumption) ?_
        case hy17 => (intro w hSw; (try dsimp only at hSw); go_simp); (try with_reducible rfl)
        try simp only [Act.put, List.setIfInBounds_toArray, List.set_cons_zero, List.set_cons_succ]
        refine wpAnyH_take (i := 18) (oi := { dst := some 46, op := Op.binOp BinOp.lss 3 (Operand.tmp 42) (Operand.tmp 45) 3, type := 4, pos := "law.go:102", after := #[{ on := 14, ground := Ground.data }, { on := 17, ground := Ground.data }, { on := 12, ground := Ground.guard }], guard := some (12, false) }) (v := ?_) rfl (by kernel_rfl) (by kernel_rfl) (by kernel_rfl) (fun _ _ _ h => h) (Or.inl ⟨by rfl, ?hy18⟩) (by assumption) ?_
        case hy18 => (intro w hSw; (try dsimp only at hSw); go_simp); (try with_reducible rfl)
        try simp only [Act.put, List.setIfInBounds_toArray, List.set_cons_zero, List.set_cons_succ]
        refine wpAnyH_take (i := 19) (oi := { dst := some 47, op := Op.move (Operand.tmp 46), type := 4, pos := "law.go:102", after := #[{ on := 18, ground := Ground.data }, { on := 12, ground := Ground.chain }, { on := 12, ground := Ground.guard }], guard := some (12, false) }) (v := ?_) rfl (by kernel_rfl) (by kernel_rfl) (by kernel_rfl) (fun _ _ _ h => h) (Or.inl ⟨by rfl, ?hy19⟩) (by assumption) ?_
        case hy19 => (intro w hSw; (try dsimp only at hSw); go_simp); (try with_reducible rfl)
        try simp only [Act.put, List.setIfInBounds_toArray, List.set_cons_zero, List.set_cons_succ]
        refine wpAnyH_take (i := 20) (oi := { dst := some 48, op := Op.fieldAddr 25 (Operand.tmp 5) 0, type := 0, pos := "law.go:102", after := #[{ on := 19, ground := Ground.guard }], guard := some (19, true) }) (v := ?_) rfl (by kernel_rfl) (by kernel_rfl) (by kernel_rfl) (fun _ _ _ h => h) (Or.inl ⟨by rfl, ?hy20⟩) (by assumption) ?_
        case hy20 => (intro w hSw; (try dsimp only at hSw); go_simp); (try with_reducible rfl)
        try simp only [Act.put, List.setIfInBounds_toArray, List.set_cons_zero, List.set_cons_succ]
        refine wpAnyH_take (i := 21) (oi := { dst := some 49, op := Op.load 9 (Operand.tmp 48), type := 9, pos := "law.go:102", after := #[{ on := 20, ground := Ground.data }, { on := 19, ground := Ground.guard }], guard := some (19, true) }) (v := ?_) rfl (by kernel_rfl) (by kernel_rfl) (by kernel_rfl) (fun _ _ _ h => h) (Or.inl ⟨by rfl, ?hy21⟩) (by assumption) ?_
        case hy21 => (intro w hSw; (try dsimp only at hSw); go_simp); (try with_reducible rfl)
        try simp only [Act.put, List.setIfInBounds_toArray, List.set_cons_zero, List.set_cons_succ]
        refine wpAnyH_take (i := 22) (oi := { dst := some 50, op := Op.move (Operand.tmp 7), type := 3, pos := "law.go:102", after := #[{ on := 19, ground := Ground.guard }], guard := some (19, true) }) (v := ?_) rfl (by kernel_rfl) (by kernel_rfl) (by kernel_rfl) (fun _ _ _ h => h) (Or.inl ⟨by rfl, ?hy22⟩) (by assumption) ?_
        case hy22 => (intro w hSw; (try dsimp only at hSw); go_simp); (try with_reducible rfl)
        try simp only [Act.put, List.setIfInBounds_toArray, List.set_cons_zero, List.set_cons_succ]
        refine wpAnyH_take (i := 24) (oi := { dst := some 52, op := Op.fieldAddr 25 (Operand.tmp 5) 1, type := 0, pos := "law.go:102", after := #[{ on := 19, ground := Ground.guard }], guard := some (19, true) }) (v := ?_) rfl (by kernel_rfl) (by kernel_rfl) (by kernel_rfl) (fun _ _ _ h => h) (Or.inl ⟨by rfl, ?hy24⟩) (by assumption) ?_
        case hy24 => (intro w hSw; (try dsimp only at hSw); go_simp); (try with_reducible rfl)
        try simp only [Act.put, List.setIfInBounds_toArray, List.set_cons_zero, List.set_cons_succ]
        refine wpAnyH_take (i := 25) (oi := { dst := some 53, op := Op.load 3 (Operand.tmp 52), type := 3, pos := "law.go:102", after := #[{ on := 24, ground := Ground.data }, { on := 19, ground := Ground.guard }], guard := some (19, true) }) (v := ?_) rfl (by kernel_rfl) (by kernel_rfl) (by kernel_rfl) (fun _ _ _ h => h) (Or.inl ⟨by rfl, ?hy25⟩) (by assumption) ?_
        case hy25 => (intro w hSw; (try dsimp only at hSw); go_simp); (try with_reducible rfl)
        try simp only [Act.put, List.setIfInBounds_toArray, List.set_cons_zero, List.set_cons_succ]
        refine wpAnyH_ready (rs := [23]) (by kernel_rfl) (by simp) ?_
        refine AllReadyH.cons (o := { dst := some 51, op := Op.call { callee := Callee.value (Operand.func 25), args := #[Operand.tmp 49, Operand.tmp 50], argTypes := #[9, 3] }, type := 3, pos := "law.go:102", after := #[{ on := 21, ground := Ground.data }, { on := 22, ground := Ground.data }, { on := 19, ground := Ground.chain }, { on := 19, ground := Ground.guard }], guard := some (19, true) }) rfl (fun K hK => ?_) AllReadyH.nil
        go_simp
        go_at_call 25
        have D6' : Below w5.heap.size w5 w5.drew := ((Below.refl _ w5).drew)
        with_reducible refine (F8'.out w5.drew (HU.out.later (B5.trans (D6'.mono B5.size)))).mono ?_
        rintro e w7 ⟨rfl, b7⟩
        have D7 : Below w5.heap.size w5 w7 := D6'.trans (b7.mono D6'.size)
        obtain ⟨z0, z1, _, _⟩ := buf_cells ((D7.block _ l5).trans H5.out)
        refine hK.out _ _ ⟨z0, z1⟩ (fun hHeld => ?_)
        clear hK K
        try simp only [Act.put, List.setIfInBounds_toArray, List.set_cons_zero, List.set_cons_succ]
        refine wpAnyH_take (i := 26) (oi := { dst := some 54, op := Op.binOp BinOp.neq 3 (Operand.tmp 51) (Operand.tmp 53) 3, type := 4, pos := "law.go:102", after := #[{ on := 23, ground := Ground.data }, { on := 25, ground := Ground.data }, { on := 19, ground := Ground.guard }], guard := some (19, true) }) (v := ?_) rfl (by kernel_rfl) (by kernel_rfl) (by kernel_rfl) (fun _ _ _ h => h) (Or.inl ⟨by rfl, ?hy26⟩) (by assumption) ?_
        case hy26 => (intro w hSw; (try dsimp only at hSw); go_simp); (try with_reducible rfl)
        try simp only [Act.put, List.setIfInBounds_toArray, List.set_cons_zero, List.set_cons_succ]
        refine wpAnyH_take (i := 27) (oi := { dst := some 55, op := Op.pick (Operand.tmp 47) (Operand.tmp 54) (Operand.const (Value.bool false)), type := 4, pos := "law.go:102", after := #[{ on := 19, ground := Ground.data }, { on := 26, ground := Ground.data }, { on := 12, ground := Ground.guard }], guard := some (12, false) }) (v := ?_) rfl (by kernel_rfl) (by kernel_rfl) (by kernel_rfl) (fun _ _ _ h => h) (Or.inl ⟨by rfl, ?hy27⟩) (by assumption) ?_
        case hy27 => (intro w hSw; (try dsimp only at hSw); go_simp); (try with_reducible rfl)
        try simp only [Act.put, List.setIfInBounds_toArray, List.set_cons_zero, List.set_cons_succ]
        refine wpAnyH_take (i := 28) (oi := { dst := some 56, op := Op.pick (Operand.tmp 40) (Operand.const (Value.bool true)) (Operand.tmp 55), type := 4, pos := "law.go:102", after := #[{ on := 12, ground := Ground.data }, { on := 27, ground := Ground.data }], guard := none }) (v := ?_) rfl (by kernel_rfl) (by kernel_rfl) (by kernel_rfl) (fun _ _ _ h => h) (Or.inl ⟨by rfl, ?hy28⟩) (by assumption) ?_
        case hy28 => (intro w hSw; (try dsimp only at hSw); go_simp); (try with_reducible rfl)
        try simp only [Act.put, List.setIfInBounds_toArray, List.set_cons_zero, List.set_cons_succ]
        refine wpAnyH_take (i := 29) (oi := { dst := some 57, op := Op.move (Operand.tmp 56), type := 4, pos := "law.go:102", after := #[{ on := 28, ground := Ground.data }, { on := 23, ground := Ground.chain }], guard := none }) (v := ?_) rfl (by kernel_rfl) (by kernel_rfl) (by kernel_rfl) (fun _ _ _ h => h) (Or.inl ⟨by rfl, ?hy29⟩) (by assumption) ?_
        case hy29 => (intro w hSw; (try dsimp only at hSw); go_simp); (try with_reducible rfl)
        try simp only [Act.put, List.setIfInBounds_toArray, List.set_cons_zero, List.set_cons_succ]
        refine wpAnyH_take (i := 30) (oi := { dst := some 58, op := Op.move (Operand.tmp 6), type := 3, pos := "law.go:102", after := #[{ on := 29, ground := Ground.guard }], guard := some (29, false) }) (v := ?_) rfl (by kernel_rfl) (by kernel_rfl) (by kernel_rfl) (fun _ _ _ h => h) (Or.inl ⟨by rfl, ?hy30⟩) (by assumption) ?_
        case hy30 => (intro w hSw; (try dsimp only at hSw); go_simp); (try with_reducible rfl)
        try simp only [Act.put, List.setIfInBounds_toArray, List.set_cons_zero, List.set_cons_succ]
        refine wpAnyH_take (i := 31) (oi := { dst := some 59, op := Op.fieldAddr 25 (Operand.tmp 5) 1, type := 0, pos := "law.go:102", after := #[{ on := 29, ground := Ground.guard }], guard := some (29, false) }) (v := ?_) rfl (by kernel_rfl) (by kernel_rfl) (by kernel_rfl) (fun _ _ _ h => h) (Or.inl ⟨by rfl, ?hy31⟩) (by assumption) ?_
        case hy31 => (intro w hSw; (try dsimp only at hSw); go_simp); (try with_reducible rfl)
        try simp only [Act.put, List.setIfInBounds_toArray, List.set_cons_zero, List.set_cons_succ]
        refine wpAnyH_take (i := 32) (oi := { dst := some 60, op := Op.load 3 (Operand.tmp 59), type := 3, pos := "law.go:102", after := #[{ on := 31, ground := Ground.data }, { on := 29, ground := Ground.guard }], guard := some (29, false) }) (v := ?_) rfl (by kernel_rfl) (by kernel_rfl) (by kernel_rfl) (fun _ _ _ h => h) (Or.inl ⟨by rfl, ?hy32⟩) (by assumption) ?_
        case hy32 => (intro w hSw; (try dsimp only at hSw); go_simp); (try with_reducible rfl)
        try simp only [Act.put, List.setIfInBounds_toArray, List.set_cons_zero, List.set_cons_succ]
        refine wpAnyH_take (i := 33) (oi := { dst := some 61, op := Op.binOp BinOp.gtr 3 (Operand.tmp 58) (Operand.tmp 60) 3, type := 4, pos := "law.go:102", after := #[{ on := 30, ground := Ground.data }, { on := 32, ground := Ground.data }, { on := 29, ground := Ground.guard }], guard := some (29, false) }) (v := ?_) rfl (by kernel_rfl) (by kernel_rfl) (by kernel_rfl) (fun _ _ _ h => h) (Or.inl ⟨by rfl, ?hy33⟩) (by assumption) ?_
        case hy33 => (intro w hSw; (try dsimp only at hSw); go_simp); (try with_reducible rfl)
        try simp only [Act.put, List.setIfInBounds_toArray, List.set_cons_zero, List.set_cons_succ]
        refine wpAnyH_take (i := 34) (oi := { dst := some 62, op := Op.pick (Operand.tmp 57) (Operand.const (Value.bool true)) (Operand.tmp 61), type := 4, pos := "law.go:102", after := #[{ on := 29, ground := Ground.data }, { on := 33, ground := Ground.data }], guard := none }) (v := ?_) rfl (by kernel_rfl) (by kernel_rfl) (by kernel_rfl) (fun _ _ _ h => h) (Or.inl ⟨by rfl, ?hy34⟩) (by assumption) ?_
        case hy34 => (intro w hSw; (try dsimp only at hSw); go_simp); (try with_reducible rfl)
        try simp only [Act.put, List.setIfInBounds_toArray, List.set_cons_zero, List.set_cons_succ]
        refine wpAnyH_take (i := 35) (oi := { dst := some 63, op := Op.move (Operand.tmp 62), type := 4, pos := "law.go:102", after := #[{ on := 34, ground := Ground.data }, { on := 29, ground := Ground.chain }], guard := none }) (v := ?_) rfl (by kernel_rfl) (by kernel_rfl) (by kernel_rfl) (fun _ _ _ h => h) (Or.inl ⟨by rfl, ?hy35⟩) (by assumption) ?_
        case hy35 => (intro w hSw; (try dsimp only at hSw); go_simp); (try with_reducible rfl)
        try simp only [Act.put, List.setIfInBounds_toArray, List.set_cons_zero, List.set_cons_succ]
        refine wpAnyH_take (i := 36) (oi := { dst := some 64, op := Op.move (Operand.tmp 7), type := 3, pos := "law.go:102", after := #[{ on := 35, ground := Ground.guard }], guard := some (35, false) }) (v := ?_) rfl (by kernel_rfl) (by kernel_rfl) (by kernel_rfl) (fun _ _ _ h => h) (Or.inl ⟨by rfl, ?hy36⟩) (by assumption) ?_
        case hy36 => (intro w hSw; (try dsimp only at hSw); go_simp); (try with_reducible rfl)
        try simp only [Act.put, List.setIfInBounds_toArray, List.set_cons_zero, List.set_cons_succ]
        refine wpAnyH_take (i := 37) (oi := { dst := some 65, op := Op.fieldAddr 25 (Operand.tmp 5) 1, type := 0, pos := "law.go:102", after := #[{ on := 35, ground := Ground.guard }], guard := some (35, false) }) (v := ?_) rfl (by kernel_rfl) (by kernel_rfl) (by kernel_rfl) (fun _ _ _ h => h) (Or.inl ⟨by rfl, ?hy37⟩) (by assumption) ?_
        case hy37 => (intro w hSw; (try dsimp only at hSw); go_simp); (try with_reducible rfl)
        try simp only [Act.put, List.setIfInBounds_toArray, List.set_cons_zero, List.set_cons_succ]
        refine wpAnyH_take (i := 38) (oi := { dst := some 66, op := Op.load 3 (Operand.tmp 65), type := 3, pos := "law.go:102", after := #[{ on := 37, ground := Ground.data }, { on := 35, ground := Ground.guard }], guard := some (35, false) }) (v := ?_) rfl (by kernel_rfl) (by kernel_rfl) (by kernel_rfl) (fun _ _ _ h => h) (Or.inl ⟨by rfl, ?hy38⟩) (by assumption) ?_
        case hy38 => (intro w hSw; (try dsimp only at hSw); go_simp); (try with_reducible rfl)
        try simp only [Act.put, List.setIfInBounds_toArray, List.set_cons_zero, List.set_cons_succ]
        refine wpAnyH_take (i := 39) (oi := { dst := some 67, op := Op.binOp BinOp.lss 3 (Operand.tmp 64) (Operand.tmp 66) 3, type := 4, pos := "law.go:102", after := #[{ on := 36, ground := Ground.data }, { on := 38, ground := Ground.data }, { on := 35, ground := Ground.guard }], guard := some (35, false) }) (v := ?_) rfl (by kernel_rfl) (by kernel_rfl) (by kernel_rfl) (fun _ _ _ h => h) (Or.inl ⟨by rfl, ?hy39⟩) (by assumption) ?_
        case hy39 => (intro w hSw; (try dsimp only at hSw); go_simp); (try with_reducible rfl)
        try simp only [Act.put, List.setIfInBounds_toArray, List.set_cons_zero, List.set_cons_succ]
        refine wpAnyH_take (i := 40) (oi := { dst := some 68, op := Op.pick (Operand.tmp 63) (Operand.const (Value.bool true)) (Operand.tmp 67), type := 4, pos := "law.go:102", after := #[{ on := 35, ground := Ground.data }, { on := 39, ground := Ground.data }], guard := none }) (v := ?_) rfl (by kernel_rfl) (by kernel_rfl) (by kernel_rfl) (fun _ _ _ h => h) (Or.inl ⟨by rfl, ?hy40⟩) (by assumption) ?_
        case hy40 => (intro w hSw; (try dsimp only at hSw); go_simp); (try with_reducible rfl)
        try simp only [Act.put, List.setIfInBounds_toArray, List.set_cons_zero, List.set_cons_succ]
        refine wpAnyH_done (by kernel_rfl) ?_ _
        have DE : Below w5.heap.size w5 w7 := D7
        obtain ⟨v9, hv9⟩ : ∃ W, W = w7 := ⟨_, rfl⟩
        rw [← hv9] at DE ⊢
        clear hv9
        clear y0 y1
        obtain ⟨u0, u1, _, _⟩ := buf_cells ((DE.block _ l5).trans H5.out)
        have h9 := (DE.block _ l5).trans H5.out
        have H9 := Lib.hid h9
        have l9 := lt_of_heap h9
        have B9 := B5.trans (DE.mono B5.size)
        clear h9 DE
        go_wp2_with fail
        go_region_held3 (fun w' => w'.cell? ⟨w2.heap.size, 0, none⟩ = some (.string bq) ∧ w'.cell? ⟨w2.heap.size, 1, none⟩ = some (.int .i64 x)) (first | exact ⟨u0, u1⟩ | exact ⟨r0, r1⟩ | exact ⟨t0, t1⟩) (first
          | (go_at_call 27; (with_reducible refine (F3.out v9.drew (HU.out.later B9.drew)).mono ?_); rintro e wa ⟨rfl, ba⟩; have DA : Below v9.heap.size v9 wa := ((Below.refl _ v9).drew).trans ba; obtain ⟨r0, r1, _, _⟩ := buf_cells ((DA.block _ l9).trans H9.out))
          | (go_at_call 28; (with_reducible refine (F4.out wa (HU.out.later (B9.trans (DA.mono B9.size)))).mono ?_); rintro e wb ⟨rfl, bb⟩; have DB : Below v9.heap.size v9 wb := DA.trans (bb.mono DA.size); obtain ⟨t0, t1, _, _⟩ := buf_cells ((DB.block _ l9).trans H9.out)))
        have BB := B9.trans (DB.mono B9.size)
        have hB := (DB.block _ l9).trans H9.out
        have HBB := Lib.hid hB
        have lB := lt_of_heap hB
        clear hB
        go_wp2_with fail
        refine (AL.out wb (HU.out.later BB)).mono ?_
        rintro e wc ⟨rfl, bc⟩
        have BC := BB.trans (bc.mono BB.size)
        have hC := (bc.block _ lB).trans HBB.out
        obtain ⟨m0, m1, _, _⟩ := buf_cells hC
        have HCC := Lib.hid hC
        have lC := lt_of_heap hC
        clear hC
        have e1 : decide ((0 : Int) ≤ (lf : Int)) = true := by simp
        have e2 : decide ((lf : Int) ≤ (p : Int)) = true := by simp; omega
        have e2' : decide (lf ≤ p) = true := by simp; omega
        have e3 : decide ((n : Int) ≤ (rt : Int)) = true := by simp; omega
        have e3' : decide (n ≤ rt) = true := by simp; omega
        have e4 : decide ((rt : Int) ≤ (bq.size : Int)) = true := by simp; omega
        have e4' : decide (rt ≤ bq.size) = true := by simp; omega
        go_wp2_with fail
        refine (F5.out wc (HU.out.later BC)).mono ?_
        rintro e wd ⟨rfl, bd⟩
        have BD := BC.trans (bd.mono BC.size)
        obtain ⟨n0, n1, _, _⟩ := buf_cells ((bd.block _ lC).trans HCC.out)
        clear m0 m1
        go_wp2_with fail
        refine (F6.out wd (HU.out.later BD)).mono ?_
        rintro e we ⟨rfl, be⟩
        go_wp2
        go_ret
        exact ⟨rfl, BD.trans (be.mono BD.size)⟩
    · have d1 : decide ((0 : Int) < (x : Int)) = true := by simp; omega
      have d1' : decide (0 < x) = true := by simp; omega
      have F7' := Lib.hid (by have := F7.out; rw [hn1] at this; exact this)
      rcases HD.out with ⟨_, h1⟩ | ⟨_, h1, hn2⟩
      · have d2 : decide ((x : Int) < (bq.size : Int)) = false := by simp; omega
        have d2' : decide (x < bq.size) = false := by simp; omega
        clear h0 h1 hn1
        go_wp2_with fail
        refine wp_region_held_drew (S := fun w' => w'.cell? ⟨w2.heap.size, 0, none⟩ = some (.string bq) ∧ w'.cell? ⟨w2.heap.size, 1, none⟩ = some (.int .i64 x)) (by kernel_rfl) ⟨y0, y1⟩ (fun hHeld => ?_)
        refine wpAnyH_take (i := 0) (oi := { dst := some 28, op := Op.fieldAddr 25 (Operand.tmp 5) 1, type := 0, pos := "law.go:102", after := #[], guard := none }) (v := ?_) rfl (by kernel_rfl) (by kernel_rfl) (by kernel_rfl) (fun _ _ _ h => h) (Or.inl ⟨by rfl, ?hy0⟩) (by assumption) ?_
        case hy0 => (intro w hSw; (try dsimp only at hSw); go_simp); (try with_reducible rfl)
        try simp only [Act.put, List.setIfInBounds_toArray, List.set_cons_zero, List.set_cons_succ]
        refine wpAnyH_take (i := 1) (oi := { dst := some 29, op := Op.load 3 (Operand.tmp 28), type := 3, pos := "law.go:102", after := #[{ on := 0, ground := Ground.data }], guard := none }) (v := ?_) rfl (by kernel_rfl) (by kernel_rfl) (by kernel_rfl) (fun _ _ _ h => h) (Or.inl ⟨by rfl, ?hy1⟩) (by assumption) ?_
        case hy1 => (intro w hSw; (try dsimp only at hSw); go_simp); (try with_reducible rfl)
        try simp only [Act.put, List.setIfInBounds_toArray, List.set_cons_zero, List.set_cons_succ]
        refine wpAnyH_take (i := 2) (oi := { dst := some 30, op := Op.binOp BinOp.gtr 3 (Operand.tmp 29) (Operand.const (Value.int IntKind.i64 0)) 3, type := 4, pos := "law.go:102", after := #[{ on := 1, ground := Ground.data }], guard := none }) (v := ?_) rfl (by kernel_rfl) (by kernel_rfl) (by kernel_rfl) (fun _ _ _ h => h) (Or.inl ⟨by rfl, ?hy2⟩) (by assumption) ?_
        case hy2 => (intro w hSw; (try dsimp only at hSw); go_simp); (try with_reducible rfl)
        try simp only [Act.put, List.setIfInBounds_toArray, List.set_cons_zero, List.set_cons_succ]
        refine wpAnyH_take (i := 3) (oi := { dst := some 31, op := Op.move (Operand.tmp 30), type := 4, pos := "law.go:102", after := #[{ on := 2, ground := Ground.data }], guard := none }) (v := ?_) rfl (by kernel_rfl) (by kernel_rfl) (by kernel_rfl) (fun _ _ _ h => h) (Or.inl ⟨by rfl, ?hy3⟩) (by assumption) ?_
        case hy3 => (intro w hSw; (try dsimp only at hSw); go_simp); (try with_reducible rfl)
        try simp only [Act.put, List.setIfInBounds_toArray, List.set_cons_zero, List.set_cons_succ]
        refine wpAnyH_take (i := 4) (oi := { dst := some 32, op := Op.fieldAddr 25 (Operand.tmp 5) 0, type := 0, pos := "law.go:102", after := #[{ on := 3, ground := Ground.guard }], guard := some (3, true) }) (v := ?_) rfl (by kernel_rfl) (by kernel_rfl) (by kernel_rfl) (fun _ _ _ h => h) (Or.inl ⟨by rfl, ?hy4⟩) (by assumption) ?_
        case hy4 => (intro w hSw; (try dsimp only at hSw); go_simp); (try with_reducible rfl)
        try simp only [Act.put, List.setIfInBounds_toArray, List.set_cons_zero, List.set_cons_succ]
        refine wpAnyH_take (i := 5) (oi := { dst := some 33, op := Op.load 9 (Operand.tmp 32), type := 9, pos := "law.go:102", after := #[{ on := 4, ground := Ground.data }, { on := 3, ground := Ground.guard }], guard := some (3, true) }) (v := ?_) rfl (by kernel_rfl) (by kernel_rfl) (by kernel_rfl) (fun _ _ _ h => h) (Or.inl ⟨by rfl, ?hy5⟩) (by assumption) ?_
        case hy5 => (intro w hSw; (try dsimp only at hSw); go_simp); (try with_reducible rfl)
        try simp only [Act.put, List.setIfInBounds_toArray, List.set_cons_zero, List.set_cons_succ]
        refine wpAnyH_take (i := 6) (oi := { dst := some 34, op := Op.move (Operand.tmp 6), type := 3, pos := "law.go:102", after := #[{ on := 3, ground := Ground.guard }], guard := some (3, true) }) (v := ?_) rfl (by kernel_rfl) (by kernel_rfl) (by kernel_rfl) (fun _ _ _ h => h) (Or.inl ⟨by rfl, ?hy6⟩) (by assumption) ?_
        case hy6 => (intro w hSw; (try dsimp only at hSw); go_simp); (try with_reducible rfl)
        try simp only [Act.put, List.setIfInBounds_toArray, List.set_cons_zero, List.set_cons_succ]
        refine wpAnyH_take (i := 8) (oi := { dst := some 36, op := Op.fieldAddr 25 (Operand.tmp 5) 1, type := 0, pos := "law.go:102", after := #[{ on := 3, ground := Ground.guard }], guard := some (3, true) }) (v := ?_) rfl (by kernel_rfl) (by kernel_rfl) (by kernel_rfl) (fun _ _ _ h => h) (Or.inl ⟨by rfl, ?hy8⟩) (by assumption) ?_
        case hy8 => (intro w hSw; (try dsimp only at hSw); go_simp); (try with_reducible rfl)
        try simp only [Act.put, List.setIfInBounds_toArray, List.set_cons_zero, List.set_cons_succ]
        refine wpAnyH_take (i := 9) (oi := { dst := some 37, op := Op.load 3 (Operand.tmp 36), type := 3, pos := "law.go:102", after := #[{ on := 8, ground := Ground.data }, { on := 3, ground := Ground.guard }], guard := some (3, true) }) (v := ?_) rfl (by kernel_rfl) (by kernel_rfl) (by kernel_rfl) (fun _ _ _ h => h) (Or.inl ⟨by rfl, ?hy9⟩) (by assumption) ?_
        case hy9 => (intro w hSw; (try dsimp only at hSw); go_simp); (try with_reducible rfl)
        try simp only [Act.put, List.setIfInBounds_toArray, List.set_cons_zero, List.set_cons_succ]
        refine wpAnyH_ready (rs := [7]) (by kernel_rfl) (by simp) ?_
        refine AllReadyH.cons (o := { dst := some 35, op := Op.call { callee := Callee.value (Operand.func 26), args := #[Operand.tmp 33, Operand.tmp 34], argTypes := #[9, 3] }, type := 3, pos := "law.go:102", after := #[{ on := 5, ground := Ground.data }, { on := 6, ground := Ground.data }, { on := 3, ground := Ground.chain }, { on := 3, ground := Ground.guard }], guard := some (3, true) }) rfl (fun K hK => ?_) AllReadyH.nil
        go_simp
        go_at_call 26
        with_reducible refine (F7'.out w5.drew (HU.out.later B5.drew)).mono ?_
        rintro e w6 ⟨rfl, b6⟩
        have D6 : Below w5.heap.size w5 w6 := ((Below.refl _ w5).drew).trans b6
        obtain ⟨x0, x1, _, _⟩ := buf_cells ((D6.block _ l5).trans H5.out)
        refine hK.out _ _ ⟨x0, x1⟩ (fun hHeld => ?_)
        clear hK K
        try simp only [Act.put, List.setIfInBounds_toArray, List.set_cons_zero, List.set_cons_succ]
        refine wpAnyH_take (i := 10) (oi := { dst := some 38, op := Op.binOp BinOp.neq 3 (Operand.tmp 35) (Operand.tmp 37) 3, type := 4, pos := "law.go:102", after := #[{ on := 7, ground := Ground.data }, { on := 9, ground := Ground.data }, { on := 3, ground := Ground.guard }], guard := some (3, true) }) (v := ?_) rfl (by kernel_rfl) (by kernel_rfl) (by kernel_rfl) (fun _ _ _ h => h) (Or.inl ⟨by rfl, ?hy10⟩) (by assumption) ?_
        case hy10 => (intro w hSw; (try dsimp only at hSw); go_simp); (try with_reducible rfl)
        try simp only [Act.put, List.setIfInBounds_toArray, List.set_cons_zero, List.set_cons_succ]
        refine wpAnyH_take (i := 11) (oi := { dst := some 39, op := Op.pick (Operand.tmp 31) (Operand.tmp 38) (Operand.const (Value.bool false)), type := 4, pos := "law.go:102", after := #[{ on := 3, ground := Ground.data }, { on := 10, ground := Ground.data }], guard := none }) (v := ?_) rfl (by kernel_rfl) (by kernel_rfl) (by kernel_rfl) (fun _ _ _ h => h) (Or.inl ⟨by rfl, ?hy11⟩) (by assumption) ?_
        case hy11 => (intro w hSw; (try dsimp only at hSw); go_simp); (try with_reducible rfl)
        try simp only [Act.put, List.setIfInBounds_toArray, List.set_cons_zero, List.set_cons_succ]
        refine wpAnyH_take (i := 12) (oi := { dst := some 40, op := Op.move (Operand.tmp 39), type := 4, pos := "law.go:102", after := #[{ on := 11, ground := Ground.data }, { on := 7, ground := Ground.chain }], guard := none }) (v := ?_) rfl (by kernel_rfl) (by kernel_rfl) (by kernel_rfl) (fun _ _ _ h => h) (Or.inl ⟨by rfl, ?hy12⟩) (by assumption) ?_
        case hy12 => (intro w hSw; (try dsimp only at hSw); go_simp); (try with_reducible rfl)
        try simp only [Act.put, List.setIfInBounds_toArray, List.set_cons_zero, List.set_cons_succ]
        refine wpAnyH_take (i := 13) (oi := { dst := some 41, op := Op.fieldAddr 25 (Operand.tmp 5) 1, type := 0, pos := "law.go:102", after := #[{ on := 12, ground := Ground.guard }], guard := some (12, false) }) (v := ?_) rfl (by kernel_rfl) (by kernel_rfl) (by kernel_rfl) (fun _ _ _ h => h) (Or.inl ⟨by rfl, ?hy13⟩) (by assumption) ?_
        case hy13 => (intro w hSw; (try dsimp only at hSw); go_simp); (try with_reducible rfl)
        try simp only [Act.put, List.setIfInBounds_toArray, List.set_cons_zero, List.set_cons_succ]
        refine wpAnyH_take (i := 14) (oi := { dst := some 42, op := Op.load 3 (Operand.tmp 41), type := 3, pos := "law.go:102", after := #[{ on := 13, ground := Ground.data }, { on := 12, ground := Ground.guard }], guard := some (12, false) }) (v := ?_) rfl (by kernel_rfl) (by kernel_rfl) (by kernel_rfl) (fun _ _ _ h => h) (Or.inl ⟨by rfl, ?hy14⟩) (by assumption) ?_
        case hy14 => (intro w hSw; (try dsimp only at hSw); go_simp); (try with_reducible rfl)
        try simp only [Act.put, List.setIfInBounds_toArray, List.set_cons_zero, List.set_cons_succ]
        refine wpAnyH_take (i := 15) (oi := { dst := some 43, op := Op.fieldAddr 25 (Operand.tmp 5) 0, type := 0, pos := "law.go:102", after := #[{ on := 12, ground := Ground.guard }], guard := some (12, false) }) (v := ?_) rfl (by kernel_rfl) (by kernel_rfl) (by kernel_rfl) (fun _ _ _ h => h) (Or.inl ⟨by rfl, ?hy15⟩) (by assumption) ?_
        case hy15 => (intro w hSw; (try dsimp only at hSw); go_simp); (try with_reducible rfl)
        try simp only [Act.put, List.setIfInBounds_toArray, List.set_cons_zero, List.set_cons_succ]
        refine wpAnyH_take (i := 16) (oi := { dst := some 44, op := Op.load 9 (Operand.tmp 43), type := 9, pos := "law.go:102", after := #[{ on := 15, ground := Ground.data }, { on := 12, ground := Ground.guard }], guard := some (12, false) }) (v := ?_) rfl (by kernel_rfl) (by kernel_rfl) (by kernel_rfl) (fun _ _ _ h => h) (Or.inl ⟨by rfl, ?hy16⟩) (by assumption) ?_
        case hy16 => (intro w hSw; (try dsimp only at hSw); go_simp); (try with_reducible rfl)
        try simp only [Act.put, List.setIfInBounds_toArray, List.set_cons_zero, List.set_cons_succ]
        refine wpAnyH_take (i := 17) (oi := { dst := some 45, op := Op.call { callee := Callee.builtin Builtin.len, args := #[Operand.tmp 44], argTypes := #[9] }, type := 3, pos := "law.go:102", after := #[{ on := 16, ground := Ground.data }, { on := 12, ground := Ground.guard }], guard := some (12, false) }) (v := ?_) rfl (by kernel_rfl) (by kernel_rfl) (by kernel_rfl) (fun _ _ _ h => h) (Or.inl ⟨by rfl, ?hy17⟩) (by assumption) ?_
        case hy17 => (intro w hSw; (try dsimp only at hSw); go_simp); (try with_reducible rfl)
        try simp only [Act.put, List.setIfInBounds_toArray, List.set_cons_zero, List.set_cons_succ]
        refine wpAnyH_take (i := 18) (oi := { dst := some 46, op := Op.binOp BinOp.lss 3 (Operand.tmp 42) (Operand.tmp 45) 3, type := 4, pos := "law.go:102", after := #[{ on := 14, ground := Ground.data }, { on := 17, ground := Ground.data }, { on := 12, ground := Ground.guard }], guard := some (12, false) }) (v := ?_) rfl (by kernel_rfl) (by kernel_rfl) (by kernel_rfl) (fun _ _ _ h => h) (Or.inl ⟨by rfl, ?hy18⟩) (by assumption) ?_
        case hy18 => (intro w hSw; (try dsimp only at hSw); go_simp); (try with_reducible rfl)
        try simp only [Act.put, List.setIfInBounds_toArray, List.set_cons_zero, List.set_cons_succ]
        refine wpAnyH_take (i := 19) (oi := { dst := some 47, op := Op.move (Operand.tmp 46), type := 4, pos := "law.go:102", after := #[{ on := 18, ground := Ground.data }, { on := 12, ground := Ground.chain }, { on := 12, ground := Ground.guard }], guard := some (12, false) }) (v := ?_) rfl (by kernel_rfl) (by kernel_rfl) (by kernel_rfl) (fun _ _ _ h => h) (Or.inl ⟨by rfl, ?hy19⟩) (by assumption) ?_
        case hy19 => (intro w hSw; (try dsimp only at hSw); go_simp); (try with_reducible rfl)
        try simp only [Act.put, List.setIfInBounds_toArray, List.set_cons_zero, List.set_cons_succ]
        refine wpAnyH_take (i := 20) (oi := { dst := some 48, op := Op.fieldAddr 25 (Operand.tmp 5) 0, type := 0, pos := "law.go:102", after := #[{ on := 19, ground := Ground.guard }], guard := some (19, true) }) (v := undef) rfl (by kernel_rfl) (by kernel_rfl) (by kernel_rfl) (fun _ _ _ h => h) (Or.inr ⟨by rfl, rfl⟩) (by assumption) ?_
        try simp only [Act.put, List.setIfInBounds_toArray, List.set_cons_zero, List.set_cons_succ]
        refine wpAnyH_take (i := 21) (oi := { dst := some 49, op := Op.load 9 (Operand.tmp 48), type := 9, pos := "law.go:102", after := #[{ on := 20, ground := Ground.data }, { on := 19, ground := Ground.guard }], guard := some (19, true) }) (v := undef) rfl (by kernel_rfl) (by kernel_rfl) (by kernel_rfl) (fun _ _ _ h => h) (Or.inr ⟨by rfl, rfl⟩) (by assumption) ?_
        try simp only [Act.put, List.setIfInBounds_toArray, List.set_cons_zero, List.set_cons_succ]
        refine wpAnyH_take (i := 22) (oi := { dst := some 50, op := Op.move (Operand.tmp 7), type := 3, pos := "law.go:102", after := #[{ on := 19, ground := Ground.guard }], guard := some (19, true) }) (v := undef) rfl (by kernel_rfl) (by kernel_rfl) (by kernel_rfl) (fun _ _ _ h => h) (Or.inr ⟨by rfl, rfl⟩) (by assumption) ?_
        try simp only [Act.put, List.setIfInBounds_toArray, List.set_cons_zero, List.set_cons_succ]
        refine wpAnyH_take (i := 23) (oi := { dst := some 51, op := Op.call { callee := Callee.value (Operand.func 25), args := #[Operand.tmp 49, Operand.tmp 50], argTypes := #[9, 3] }, type := 3, pos := "law.go:102", after := #[{ on := 21, ground := Ground.data }, { on := 22, ground := Ground.data }, { on := 19, ground := Ground.chain }, { on := 19, ground := Ground.guard }], guard := some (19, true) }) (v := undef) rfl (by kernel_rfl) (by kernel_rfl) (by kernel_rfl) (fun _ _ _ h => h) (Or.inr ⟨by rfl, rfl⟩) (by assumption) ?_
        try simp only [Act.put, List.setIfInBounds_toArray, List.set_cons_zero, List.set_cons_succ]
        refine wpAnyH_take (i := 24) (oi := { dst := some 52, op := Op.fieldAddr 25 (Operand.tmp 5) 1, type := 0, pos := "law.go:102", after := #[{ on := 19, ground := Ground.guard }], guard := some (19, true) }) (v := undef) rfl (by kernel_rfl) (by kernel_rfl) (by kernel_rfl) (fun _ _ _ h => h) (Or.inr ⟨by rfl, rfl⟩) (by assumption) ?_
        try simp only [Act.put, List.setIfInBounds_toArray, List.set_cons_zero, List.set_cons_succ]
        refine wpAnyH_take (i := 25) (oi := { dst := some 53, op := Op.load 3 (Operand.tmp 52), type := 3, pos := "law.go:102", after := #[{ on := 24, ground := Ground.data }, { on := 19, ground := Ground.guard }], guard := some (19, true) }) (v := undef) rfl (by kernel_rfl) (by kernel_rfl) (by kernel_rfl) (fun _ _ _ h => h) (Or.inr ⟨by rfl, rfl⟩) (by assumption) ?_
        try simp only [Act.put, List.setIfInBounds_toArray, List.set_cons_zero, List.set_cons_succ]
        refine wpAnyH_take (i := 26) (oi := { dst := some 54, op := Op.binOp BinOp.neq 3 (Operand.tmp 51) (Operand.tmp 53) 3, type := 4, pos := "law.go:102", after := #[{ on := 23, ground := Ground.data }, { on := 25, ground := Ground.data }, { on := 19, ground := Ground.guard }], guard := some (19, true) }) (v := undef) rfl (by kernel_rfl) (by kernel_rfl) (by kernel_rfl) (fun _ _ _ h => h) (Or.inr ⟨by rfl, rfl⟩) (by assumption) ?_
        try simp only [Act.put, List.setIfInBounds_toArray, List.set_cons_zero, List.set_cons_succ]
        refine wpAnyH_take (i := 27) (oi := { dst := some 55, op := Op.pick (Operand.tmp 47) (Operand.tmp 54) (Operand.const (Value.bool false)), type := 4, pos := "law.go:102", after := #[{ on := 19, ground := Ground.data }, { on := 26, ground := Ground.data }, { on := 12, ground := Ground.guard }], guard := some (12, false) }) (v := ?_) rfl (by kernel_rfl) (by kernel_rfl) (by kernel_rfl) (fun _ _ _ h => h) (Or.inl ⟨by rfl, ?hy27⟩) (by assumption) ?_
        case hy27 => (intro w hSw; (try dsimp only at hSw); go_simp); (try with_reducible rfl)
        try simp only [Act.put, List.setIfInBounds_toArray, List.set_cons_zero, List.set_cons_succ]
        refine wpAnyH_take (i := 28) (oi := { dst := some 56, op := Op.pick (Operand.tmp 40) (Operand.const (Value.bool true)) (Operand.tmp 55), type := 4, pos := "law.go:102", after := #[{ on := 12, ground := Ground.data }, { on := 27, ground := Ground.data }], guard := none }) (v := ?_) rfl (by kernel_rfl) (by kernel_rfl) (by kernel_rfl) (fun _ _ _ h => h) (Or.inl ⟨by rfl, ?hy28⟩) (by assumption) ?_
        case hy28 => (intro w hSw; (try dsimp only at hSw); go_simp); (try with_reducible rfl)
        try simp only [Act.put, List.setIfInBounds_toArray, List.set_cons_zero, List.set_cons_succ]
        refine wpAnyH_take (i := 29) (oi := { dst := some 57, op := Op.move (Operand.tmp 56), type := 4, pos := "law.go:102", after := #[{ on := 28, ground := Ground.data }, { on := 23, ground := Ground.chain }], guard := none }) (v := ?_) rfl (by kernel_rfl) (by kernel_rfl) (by kernel_rfl) (fun _ _ _ h => h) (Or.inl ⟨by rfl, ?hy29⟩) (by assumption) ?_
        case hy29 => (intro w hSw; (try dsimp only at hSw); go_simp); (try with_reducible rfl)
        try simp only [Act.put, List.setIfInBounds_toArray, List.set_cons_zero, List.set_cons_succ]
        refine wpAnyH_take (i := 30) (oi := { dst := some 58, op := Op.move (Operand.tmp 6), type := 3, pos := "law.go:102", after := #[{ on := 29, ground := Ground.guard }], guard := some (29, false) }) (v := ?_) rfl (by kernel_rfl) (by kernel_rfl) (by kernel_rfl) (fun _ _ _ h => h) (Or.inl ⟨by rfl, ?hy30⟩) (by assumption) ?_
        case hy30 => (intro w hSw; (try dsimp only at hSw); go_simp); (try with_reducible rfl)
        try simp only [Act.put, List.setIfInBounds_toArray, List.set_cons_zero, List.set_cons_succ]
        refine wpAnyH_take (i := 31) (oi := { dst := some 59, op := Op.fieldAddr 25 (Operand.tmp 5) 1, type := 0, pos := "law.go:102", after := #[{ on := 29, ground := Ground.guard }], guard := some (29, false) }) (v := ?_) rfl (by kernel_rfl) (by kernel_rfl) (by kernel_rfl) (fun _ _ _ h => h) (Or.inl ⟨by rfl, ?hy31⟩) (by assumption) ?_
        case hy31 => (intro w hSw; (try dsimp only at hSw); go_simp); (try with_reducible rfl)
        try simp only [Act.put, List.setIfInBounds_toArray, List.set_cons_zero, List.set_cons_succ]
        refine wpAnyH_take (i := 32) (oi := { dst := some 60, op := Op.load 3 (Operand.tmp 59), type := 3, pos := "law.go:102", after := #[{ on := 31, ground := Ground.data }, { on := 29, ground := Ground.guard }], guard := some (29, false) }) (v := ?_) rfl (by kernel_rfl) (by kernel_rfl) (by kernel_rfl) (fun _ _ _ h => h) (Or.inl ⟨by rfl, ?hy32⟩) (by assumption) ?_
        case hy32 => (intro w hSw; (try dsimp only at hSw); go_simp); (try with_reducible rfl)
        try simp only [Act.put, List.setIfInBounds_toArray, List.set_cons_zero, List.set_cons_succ]
        refine wpAnyH_take (i := 33) (oi := { dst := some 61, op := Op.binOp BinOp.gtr 3 (Operand.tmp 58) (Operand.tmp 60) 3, type := 4, pos := "law.go:102", after := #[{ on := 30, ground := Ground.data }, { on := 32, ground := Ground.data }, { on := 29, ground := Ground.guard }], guard := some (29, false) }) (v := ?_) rfl (by kernel_rfl) (by kernel_rfl) (by kernel_rfl) (fun _ _ _ h => h) (Or.inl ⟨by rfl, ?hy33⟩) (by assumption) ?_
        case hy33 => (intro w hSw; (try dsimp only at hSw); go_simp); (try with_reducible rfl)
        try simp only [Act.put, List.setIfInBounds_toArray, List.set_cons_zero, List.set_cons_succ]
        refine wpAnyH_take (i := 34) (oi := { dst := some 62, op := Op.pick (Operand.tmp 57) (Operand.const (Value.bool true)) (Operand.tmp 61), type := 4, pos := "law.go:102", after := #[{ on := 29, ground := Ground.data }, { on := 33, ground := Ground.data }], guard := none }) (v := ?_) rfl (by kernel_rfl) (by kernel_rfl) (by kernel_rfl) (fun _ _ _ h => h) (Or.inl ⟨by rfl, ?hy34⟩) (by assumption) ?_
        case hy34 => (intro w hSw; (try dsimp only at hSw); go_simp); (try with_reducible rfl)
        try simp only [Act.put, List.setIfInBounds_toArray, List.set_cons_zero, List.set_cons_succ]
        refine wpAnyH_take (i := 35) (oi := { dst := some 63, op := Op.move (Operand.tmp 62), type := 4, pos := "law.go:102", after := #[{ on := 34, ground := Ground.data }, { on := 29, ground := Ground.chain }], guard := none }) (v := ?_) rfl (by kernel_rfl) (by kernel_rfl) (by kernel_rfl) (fun _ _ _ h => h) (Or.inl ⟨by rfl, ?hy35⟩) (by assumption) ?_
        case hy35 => (intro w hSw; (try dsimp only at hSw); go_simp); (try with_reducible rfl)
        try simp only [Act.put, List.setIfInBounds_toArray, List.set_cons_zero, List.set_cons_succ]
        refine wpAnyH_take (i := 36) (oi := { dst := some 64, op := Op.move (Operand.tmp 7), type := 3, pos := "law.go:102", after := #[{ on := 35, ground := Ground.guard }], guard := some (35, false) }) (v := ?_) rfl (by kernel_rfl) (by kernel_rfl) (by kernel_rfl) (fun _ _ _ h => h) (Or.inl ⟨by rfl, ?hy36⟩) (by assumption) ?_
        case hy36 => (intro w hSw; (try dsimp only at hSw); go_simp); (try with_reducible rfl)
        try simp only [Act.put, List.setIfInBounds_toArray, List.set_cons_zero, List.set_cons_succ]
        refine wpAnyH_take (i := 37) (oi := { dst := some 65, op := Op.fieldAddr 25 (Operand.tmp 5) 1, type := 0, pos := "law.go:102", after := #[{ on := 35, ground := Ground.guard }], guard := some (35, false) }) (v := ?_) rfl (by kernel_rfl) (by kernel_rfl) (by kernel_rfl) (fun _ _ _ h => h) (Or.inl ⟨by rfl, ?hy37⟩) (by assumption) ?_
        case hy37 => (intro w hSw; (try dsimp only at hSw); go_simp); (try with_reducible rfl)
        try simp only [Act.put, List.setIfInBounds_toArray, List.set_cons_zero, List.set_cons_succ]
        refine wpAnyH_take (i := 38) (oi := { dst := some 66, op := Op.load 3 (Operand.tmp 65), type := 3, pos := "law.go:102", after := #[{ on := 37, ground := Ground.data }, { on := 35, ground := Ground.guard }], guard := some (35, false) }) (v := ?_) rfl (by kernel_rfl) (by kernel_rfl) (by kernel_rfl) (fun _ _ _ h => h) (Or.inl ⟨by rfl, ?hy38⟩) (by assumption) ?_
        case hy38 => (intro w hSw; (try dsimp only at hSw); go_simp); (try with_reducible rfl)
        try simp only [Act.put, List.setIfInBounds_toArray, List.set_cons_zero, List.set_cons_succ]
        refine wpAnyH_take (i := 39) (oi := { dst := some 67, op := Op.binOp BinOp.lss 3 (Operand.tmp 64) (Operand.tmp 66) 3, type := 4, pos := "law.go:102", after := #[{ on := 36, ground := Ground.data }, { on := 38, ground := Ground.data }, { on := 35, ground := Ground.guard }], guard := some (35, false) }) (v := ?_) rfl (by kernel_rfl) (by kernel_rfl) (by kernel_rfl) (fun _ _ _ h => h) (Or.inl ⟨by rfl, ?hy39⟩) (by assumption) ?_
        case hy39 => (intro w hSw; (try dsimp only at hSw); go_simp); (try with_reducible rfl)
        try simp only [Act.put, List.setIfInBounds_toArray, List.set_cons_zero, List.set_cons_succ]
        refine wpAnyH_take (i := 40) (oi := { dst := some 68, op := Op.pick (Operand.tmp 63) (Operand.const (Value.bool true)) (Operand.tmp 67), type := 4, pos := "law.go:102", after := #[{ on := 35, ground := Ground.data }, { on := 39, ground := Ground.data }], guard := none }) (v := ?_) rfl (by kernel_rfl) (by kernel_rfl) (by kernel_rfl) (fun _ _ _ h => h) (Or.inl ⟨by rfl, ?hy40⟩) (by assumption) ?_
        case hy40 => (intro w hSw; (try dsimp only at hSw); go_simp); (try with_reducible rfl)
        try simp only [Act.put, List.setIfInBounds_toArray, List.set_cons_zero, List.set_cons_succ]
        refine wpAnyH_done (by kernel_rfl) ?_ _
        have DE : Below w5.heap.size w5 w6 := D6
        obtain ⟨v9, hv9⟩ : ∃ W, W = w6 := ⟨_, rfl⟩
        rw [← hv9] at DE ⊢
        clear hv9
        clear y0 y1
        obtain ⟨u0, u1, _, _⟩ := buf_cells ((DE.block _ l5).trans H5.out)
        have h9 := (DE.block _ l5).trans H5.out
        have H9 := Lib.hid h9
        have l9 := lt_of_heap h9
        have B9 := B5.trans (DE.mono B5.size)
        clear h9 DE
        go_wp2_with fail
        go_region_held3 (fun w' => w'.cell? ⟨w2.heap.size, 0, none⟩ = some (.string bq) ∧ w'.cell? ⟨w2.heap.size, 1, none⟩ = some (.int .i64 x)) (first | exact ⟨u0, u1⟩ | exact ⟨r0, r1⟩ | exact ⟨t0, t1⟩) (first
          | (go_at_call 27; (with_reducible refine (F3.out v9.drew (HU.out.later B9.drew)).mono ?_); rintro e wa ⟨rfl, ba⟩; have DA : Below v9.heap.size v9 wa := ((Below.refl _ v9).drew).trans ba; obtain ⟨r0, r1, _, _⟩ := buf_cells ((DA.block _ l9).trans H9.out))
          | (go_at_call 28; (with_reducible refine (F4.out wa (HU.out.later (B9.trans (DA.mono B9.size)))).mono ?_); rintro e wb ⟨rfl, bb⟩; have DB : Below v9.heap.size v9 wb := DA.trans (bb.mono DA.size); obtain ⟨t0, t1, _, _⟩ := buf_cells ((DB.block _ l9).trans H9.out)))
        have BB := B9.trans (DB.mono B9.size)
        have hB := (DB.block _ l9).trans H9.out
        have HBB := Lib.hid hB
        have lB := lt_of_heap hB
        clear hB
        go_wp2_with fail
        refine (AL.out wb (HU.out.later BB)).mono ?_
        rintro e wc ⟨rfl, bc⟩
        have BC := BB.trans (bc.mono BB.size)
        have hC := (bc.block _ lB).trans HBB.out
        obtain ⟨m0, m1, _, _⟩ := buf_cells hC
        have HCC := Lib.hid hC
        have lC := lt_of_heap hC
        clear hC
        have e1 : decide ((0 : Int) ≤ (lf : Int)) = true := by simp
        have e2 : decide ((lf : Int) ≤ (p : Int)) = true := by simp; omega
        have e2' : decide (lf ≤ p) = true := by simp; omega
        have e3 : decide ((n : Int) ≤ (rt : Int)) = true := by simp; omega
        have e3' : decide (n ≤ rt) = true := by simp; omega
        have e4 : decide ((rt : Int) ≤ (bq.size : Int)) = true := by simp; omega
        have e4' : decide (rt ≤ bq.size) = true := by simp; omega
        go_wp2_with fail
        refine (F5.out wc (HU.out.later BC)).mono ?_
        rintro e wd ⟨rfl, bd⟩
        have BD := BC.trans (bd.mono BC.size)
        obtain ⟨n0, n1, _, _⟩ := buf_cells ((bd.block _ lC).trans HCC.out)
        clear m0 m1
        go_wp2_with fail
        refine (F6.out wd (HU.out.later BD)).mono ?_
        rintro e we ⟨rfl, be⟩
        go_wp2
        go_ret
        exact ⟨rfl, BD.trans (be.mono BD.size)⟩
      · have d2 : decide ((x : Int) < (bq.size : Int)) = true := by simp; omega
        have d2' : decide (x < bq.size) = true := by simp; omega
        have F8' := Lib.hid (by have := F8.out; rw [hn2] at this; exact this)
        clear h0 h1 hn1 hn2
        go_wp2_with fail
        refine wp_region_held_drew (S := fun w' => w'.cell? ⟨w2.heap.size, 0, none⟩ = some (.string bq) ∧ w'.cell? ⟨w2.heap.size, 1, none⟩ = some (.int .i64 x)) (by kernel_rfl) ⟨y0, y1⟩ (fun hHeld => ?_)
        refine wpAnyH_take (i := 0) (oi := { dst := some 28, op := Op.fieldAddr 25 (Operand.tmp 5) 1, type := 0, pos := "law.go:102", after := #[], guard := none }) (v := ?_) rfl (by kernel_rfl) (by kernel_rfl) (by kernel_rfl) (fun _ _ _ h => h) (Or.inl ⟨by rfl, ?hy0⟩) (by assumption) ?_
        case hy0 => (intro w hSw; (try dsimp only at hSw); go_simp); (try with_reducible rfl)
        try simp only [Act.put, List.setIfInBounds_toArray, List.set_cons_zero, List.set_cons_succ]
        refine wpAnyH_take (i := 1) (oi := { dst := some 29, op := Op.load 3 (Operand.tmp 28), type := 3, pos := "law.go:102", after := #[{ on := 0, ground := Ground.data }], guard := none }) (v := ?_) rfl (by kernel_rfl) (by kernel_rfl) (by kernel_rfl) (fun _ _ _ h => h) (Or.inl ⟨by rfl, ?hy1⟩) (by assumption) ?_
        case hy1 => (intro w hSw; (try dsimp only at hSw); go_simp); (try with_reducible rfl)
        try simp only [Act.put, List.setIfInBounds_toArray, List.set_cons_zero, List.set_cons_succ]
        refine wpAnyH_take (i := 2) (oi := { dst := some 30, op := Op.binOp BinOp.gtr 3 (Operand.tmp 29) (Operand.const (Value.int IntKind.i64 0)) 3, type := 4, pos := "law.go:102", after := #[{ on := 1, ground := Ground.data }], guard := none }) (v := ?_) rfl (by kernel_rfl) (by kernel_rfl) (by kernel_rfl) (fun _ _ _ h => h) (Or.inl ⟨by rfl, ?hy2⟩) (by assumption) ?_
        case hy2 => (intro w hSw; (try dsimp only at hSw); go_simp); (try with_reducible rfl)
        try simp only [Act.put, List.setIfInBounds_toArray, List.set_cons_zero, List.set_cons_succ]
        refine wpAnyH_take (i := 3) (oi := { dst := some 31, op := Op.move (Operand.tmp 30), type := 4, pos := "law.go:102", after := #[{ on := 2, ground := Ground.data }], guard := none }) (v := ?_) rfl (by kernel_rfl) (by kernel_rfl) (by kernel_rfl) (fun _ _ _ h => h) (Or.inl ⟨by rfl, ?hy3⟩) (by assumption) ?_
        case hy3 => (intro w hSw; (try dsimp only at hSw); go_simp); (try with_reducible rfl)
        try simp only [Act.put, List.setIfInBounds_toArray, List.set_cons_zero, List.set_cons_succ]
        refine wpAnyH_take (i := 4) (oi := { dst := some 32, op := Op.fieldAddr 25 (Operand.tmp 5) 0, type := 0, pos := "law.go:102", after := #[{ on := 3, ground := Ground.guard }], guard := some (3, true) }) (v := ?_) rfl (by kernel_rfl) (by kernel_rfl) (by kernel_rfl) (fun _ _ _ h => h) (Or.inl ⟨by rfl, ?hy4⟩) (by assumption) ?_
        case hy4 => (intro w hSw; (try dsimp only at hSw); go_simp); (try with_reducible rfl)
        try simp only [Act.put, List.setIfInBounds_toArray, List.set_cons_zero, List.set_cons_succ]
        refine wpAnyH_take (i := 5) (oi := { dst := some 33, op := Op.load 9 (Operand.tmp 32), type := 9, pos := "law.go:102", after := #[{ on := 4, ground := Ground.data }, { on := 3, ground := Ground.guard }], guard := some (3, true) }) (v := ?_) rfl (by kernel_rfl) (by kernel_rfl) (by kernel_rfl) (fun _ _ _ h => h) (Or.inl ⟨by rfl, ?hy5⟩) (by assumption) ?_
        case hy5 => (intro w hSw; (try dsimp only at hSw); go_simp); (try with_reducible rfl)
        try simp only [Act.put, List.setIfInBounds_toArray, List.set_cons_zero, List.set_cons_succ]
        refine wpAnyH_take (i := 6) (oi := { dst := some 34, op := Op.move (Operand.tmp 6), type := 3, pos := "law.go:102", after := #[{ on := 3, ground := Ground.guard }], guard := some (3, true) }) (v := ?_) rfl (by kernel_rfl) (by kernel_rfl) (by kernel_rfl) (fun _ _ _ h => h) (Or.inl ⟨by rfl, ?hy6⟩) (by assumption) ?_
        case hy6 => (intro w hSw; (try dsimp only at hSw); go_simp); (try with_reducible rfl)
        try simp only [Act.put, List.setIfInBounds_toArray, List.set_cons_zero, List.set_cons_succ]
        refine wpAnyH_take (i := 8) (oi := { dst := some 36, op := Op.fieldAddr 25 (Operand.tmp 5) 1, type := 0, pos := "law.go:102", after := #[{ on := 3, ground := Ground.guard }], guard := some (3, true) }) (v := ?_) rfl (by kernel_rfl) (by kernel_rfl) (by kernel_rfl) (fun _ _ _ h => h) (Or.inl ⟨by rfl, ?hy8⟩) (by assumption) ?_
        case hy8 => (intro w hSw; (try dsimp only at hSw); go_simp); (try with_reducible rfl)
        try simp only [Act.put, List.setIfInBounds_toArray, List.set_cons_zero, List.set_cons_succ]
        refine wpAnyH_take (i := 9) (oi := { dst := some 37, op := Op.load 3 (Operand.tmp 36), type := 3, pos := "law.go:102", after := #[{ on := 8, ground := Ground.data }, { on := 3, ground := Ground.guard }], guard := some (3, true) }) (v := ?_) rfl (by kernel_rfl) (by kernel_rfl) (by kernel_rfl) (fun _ _ _ h => h) (Or.inl ⟨by rfl, ?hy9⟩) (by assumption) ?_
        case hy9 => (intro w hSw; (try dsimp only at hSw); go_simp); (try with_reducible rfl)
        try simp only [Act.put, List.setIfInBounds_toArray, List.set_cons_zero, List.set_cons_succ]
        refine wpAnyH_ready (rs := [7]) (by kernel_rfl) (by simp) ?_
        refine AllReadyH.cons (o := { dst := some 35, op := Op.call { callee := Callee.value (Operand.func 26), args := #[Operand.tmp 33, Operand.tmp 34], argTypes := #[9, 3] }, type := 3, pos := "law.go:102", after := #[{ on := 5, ground := Ground.data }, { on := 6, ground := Ground.data }, { on := 3, ground := Ground.chain }, { on := 3, ground := Ground.guard }], guard := some (3, true) }) rfl (fun K hK => ?_) AllReadyH.nil
        go_simp
        go_at_call 26
        with_reducible refine (F7'.out w5.drew (HU.out.later B5.drew)).mono ?_
        rintro e w6 ⟨rfl, b6⟩
        have D6 : Below w5.heap.size w5 w6 := ((Below.refl _ w5).drew).trans b6
        obtain ⟨x0, x1, _, _⟩ := buf_cells ((D6.block _ l5).trans H5.out)
        refine hK.out _ _ ⟨x0, x1⟩ (fun hHeld => ?_)
        clear hK K
        try simp only [Act.put, List.setIfInBounds_toArray, List.set_cons_zero, List.set_cons_succ]
        refine wpAnyH_take (i := 10) (oi := { dst := some 38, op := Op.binOp BinOp.neq 3 (Operand.tmp 35) (Operand.tmp 37) 3, type := 4, pos := "law.go:102", after := #[{ on := 7, ground := Ground.data }, { on := 9, ground := Ground.data }, { on := 3, ground := Ground.guard }], guard := some (3, true) }) (v := ?_) rfl (by kernel_rfl) (by kernel_rfl) (by kernel_rfl) (fun _ _ _ h => h) (Or.inl ⟨by rfl, ?hy10⟩) (by assumption) ?_
        case hy10 => (intro w hSw; (try dsimp only at hSw); go_simp); (try with_reducible rfl)
        try simp only [Act.put, List.setIfInBounds_toArray, List.set_cons_zero, List.set_cons_succ]
        refine wpAnyH_take (i := 11) (oi := { dst := some 39, op := Op.pick (Operand.tmp 31) (Operand.tmp 38) (Operand.const (Value.bool false)), type := 4, pos := "law.go:102", after := #[{ on := 3, ground := Ground.data }, { on := 10, ground := Ground.data }], guard := none }) (v := ?_) rfl (by kernel_rfl) (by kernel_rfl) (by kernel_rfl) (fun _ _ _ h => h) (Or.inl ⟨by rfl, ?hy11⟩) (by assumption) ?_
        case hy11 => (intro w hSw; (try dsimp only at hSw); go_simp); (try with_reducible rfl)
        try simp only [Act.put, List.setIfInBounds_toArray, List.set_cons_zero, List.set_cons_succ]
        refine wpAnyH_take (i := 12) (oi := { dst := some 40, op := Op.move (Operand.tmp 39), type := 4, pos := "law.go:102", after := #[{ on := 11, ground := Ground.data }, { on := 7, ground := Ground.chain }], guard := none }) (v := ?_) rfl (by kernel_rfl) (by kernel_rfl) (by kernel_rfl) (fun _ _ _ h => h) (Or.inl ⟨by rfl, ?hy12⟩) (by assumption) ?_
        case hy12 => (intro w hSw; (try dsimp only at hSw); go_simp); (try with_reducible rfl)
        try simp only [Act.put, List.setIfInBounds_toArray, List.set_cons_zero, List.set_cons_succ]
        refine wpAnyH_take (i := 13) (oi := { dst := some 41, op := Op.fieldAddr 25 (Operand.tmp 5) 1, type := 0, pos := "law.go:102", after := #[{ on := 12, ground := Ground.guard }], guard := some (12, false) }) (v := ?_) rfl (by kernel_rfl) (by kernel_rfl) (by kernel_rfl) (fun _ _ _ h => h) (Or.inl ⟨by rfl, ?hy13⟩) (by assumption) ?_
        case hy13 => (intro w hSw; (try dsimp only at hSw); go_simp); (try with_reducible rfl)
        try simp only [Act.put, List.setIfInBounds_toArray, List.set_cons_zero, List.set_cons_succ]
        refine wpAnyH_take (i := 14) (oi := { dst := some 42, op := Op.load 3 (Operand.tmp 41), type := 3, pos := "law.go:102", after := #[{ on := 13, ground := Ground.data }, { on := 12, ground := Ground.guard }], guard := some (12, false) }) (v := ?_) rfl (by kernel_rfl) (by kernel_rfl) (by kernel_rfl) (fun _ _ _ h => h) (Or.inl ⟨by rfl, ?hy14⟩) (by assumption) ?_
        case hy14 => (intro w hSw; (try dsimp only at hSw); go_simp); (try with_reducible rfl)
        try simp only [Act.put, List.setIfInBounds_toArray, List.set_cons_zero, List.set_cons_succ]
        refine wpAnyH_take (i := 15) (oi := { dst := some 43, op := Op.fieldAddr 25 (Operand.tmp 5) 0, type := 0, pos := "law.go:102", after := #[{ on := 12, ground := Ground.guard }], guard := some (12, false) }) (v := ?_) rfl (by kernel_rfl) (by kernel_rfl) (by kernel_rfl) (fun _ _ _ h => h) (Or.inl ⟨by rfl, ?hy15⟩) (by assumption) ?_
        case hy15 => (intro w hSw; (try dsimp only at hSw); go_simp); (try with_reducible rfl)
        try simp only [Act.put, List.setIfInBounds_toArray, List.set_cons_zero, List.set_cons_succ]
        refine wpAnyH_take (i := 16) (oi := { dst := some 44, op := Op.load 9 (Operand.tmp 43), type := 9, pos := "law.go:102", after := #[{ on := 15, ground := Ground.data }, { on := 12, ground := Ground.guard }], guard := some (12, false) }) (v := ?_) rfl (by kernel_rfl) (by kernel_rfl) (by kernel_rfl) (fun _ _ _ h => h) (Or.inl ⟨by rfl, ?hy16⟩) (by assumption) ?_
        case hy16 => (intro w hSw; (try dsimp only at hSw); go_simp); (try with_reducible rfl)
        try simp only [Act.put, List.setIfInBounds_toArray, List.set_cons_zero, List.set_cons_succ]
        refine wpAnyH_take (i := 17) (oi := { dst := some 45, op := Op.call { callee := Callee.builtin Builtin.len, args := #[Operand.tmp 44], argTypes := #[9] }, type := 3, pos := "law.go:102", after := #[{ on := 16, ground := Ground.data }, { on := 12, ground := Ground.guard }], guard := some (12, false) }) (v := ?_) rfl (by kernel_rfl) (by kernel_rfl) (by kernel_rfl) (fun _ _ _ h => h) (Or.inl ⟨by rfl, ?hy17⟩) (by assumption) ?_
        case hy17 => (intro w hSw; (try dsimp only at hSw); go_simp); (try with_reducible rfl)
        try simp only [Act.put, List.setIfInBounds_toArray, List.set_cons_zero, List.set_cons_succ]
        refine wpAnyH_take (i := 18) (oi := { dst := some 46, op := Op.binOp BinOp.lss 3 (Operand.tmp 42) (Operand.tmp 45) 3, type := 4, pos := "law.go:102", after := #[{ on := 14, ground := Ground.data }, { on := 17, ground := Ground.data }, { on := 12, ground := Ground.guard }], guard := some (12, false) }) (v := ?_) rfl (by kernel_rfl) (by kernel_rfl) (by kernel_rfl) (fun _ _ _ h => h) (Or.inl ⟨by rfl, ?hy18⟩) (by assumption) ?_
        case hy18 => (intro w hSw; (try dsimp only at hSw); go_simp); (try with_reducible rfl)
        try simp only [Act.put, List.setIfInBounds_toArray, List.set_cons_zero, List.set_cons_succ]
        refine wpAnyH_take (i := 19) (oi := { dst := some 47, op := Op.move (Operand.tmp 46), type := 4, pos := "law.go:102", after := #[{ on := 18, ground := Ground.data }, { on := 12, ground := Ground.chain }, { on := 12, ground := Ground.guard }], guard := some (12, false) }) (v := ?_) rfl (by kernel_rfl) (by kernel_rfl) (by kernel_rfl) (fun _ _ _ h => h) (Or.inl ⟨by rfl, ?hy19⟩) (by assumption) ?_
        case hy19 => (intro w hSw; (try dsimp only at hSw); go_simp); (try with_reducible rfl)
        try simp only [Act.put, List.setIfInBounds_toArray, List.set_cons_zero, List.set_cons_succ]
        refine wpAnyH_take (i := 20) (oi := { dst := some 48, op := Op.fieldAddr 25 (Operand.tmp 5) 0, type := 0, pos := "law.go:102", after := #[{ on := 19, ground := Ground.guard }], guard := some (19, true) }) (v := ?_) rfl (by kernel_rfl) (by kernel_rfl) (by kernel_rfl) (fun _ _ _ h => h) (Or.inl ⟨by rfl, ?hy20⟩) (by assumption) ?_
        case hy20 => (intro w hSw; (try dsimp only at hSw); go_simp); (try with_reducible rfl)
        try simp only [Act.put, List.setIfInBounds_toArray, List.set_cons_zero, List.set_cons_succ]
        refine wpAnyH_take (i := 21) (oi := { dst := some 49, op := Op.load 9 (Operand.tmp 48), type := 9, pos := "law.go:102", after := #[{ on := 20, ground := Ground.data }, { on := 19, ground := Ground.guard }], guard := some (19, true) }) (v := ?_) rfl (by kernel_rfl) (by kernel_rfl) (by kernel_rfl) (fun _ _ _ h => h) (Or.inl ⟨by rfl, ?hy21⟩) (by assumption) ?_
        case hy21 => (intro w hSw; (try dsimp only at hSw); go_simp); (try with_reducible rfl)
        try simp only [Act.put, List.setIfInBounds_toArray, List.set_cons_zero, List.set_cons_succ]
        refine wpAnyH_take (i := 22) (oi := { dst := some 50, op := Op.move (Operand.tmp 7), type := 3, pos := "law.go:102", after := #[{ on := 19, ground := Ground.guard }], guard := some (19, true) }) (v := ?_) rfl (by kernel_rfl) (by kernel_rfl) (by kernel_rfl) (fun _ _ _ h => h) (Or.inl ⟨by rfl, ?hy22⟩) (by assumption) ?_
        case hy22 => (intro w hSw; (try dsimp only at hSw); go_simp); (try with_reducible rfl)
        try simp only [Act.put, List.setIfInBounds_toArray, List.set_cons_zero, List.set_cons_succ]
        refine wpAnyH_take (i := 24) (oi := { dst := some 52, op := Op.fieldAddr 25 (Operand.tmp 5) 1, type := 0, pos := "law.go:102", after := #[{ on := 19, ground := Ground.guard }], guard := some (19, true) }) (v := ?_) rfl (by kernel_rfl) (by kernel_rfl) (by kernel_rfl) (fun _ _ _ h => h) (Or.inl ⟨by rfl, ?hy24⟩) (by assumption) ?_
        case hy24 => (intro w hSw; (try dsimp only at hSw); go_simp); (try with_reducible rfl)
        try simp only [Act.put, List.setIfInBounds_toArray, List.set_cons_zero, List.set_cons_succ]
        refine wpAnyH_take (i := 25) (oi := { dst := some 53, op := Op.load 3 (Operand.tmp 52), type := 3, pos := "law.go:102", after := #[{ on := 24, ground := Ground.data }, { on := 19, ground := Ground.guard }], guard := some (19, true) }) (v := ?_) rfl (by kernel_rfl) (by kernel_rfl) (by kernel_rfl) (fun _ _ _ h => h) (Or.inl ⟨by rfl, ?hy25⟩) (by assumption) ?_
        case hy25 => (intro w hSw; (try dsimp only at hSw); go_simp); (try with_reducible rfl)
        try simp only [Act.put, List.setIfInBounds_toArray, List.set_cons_zero, List.set_cons_succ]
        refine wpAnyH_ready (rs := [23]) (by kernel_rfl) (by simp) ?_
        refine AllReadyH.cons (o := { dst := some 51, op := Op.call { callee := Callee.value (Operand.func 25), args := #[Operand.tmp 49, Operand.tmp 50], argTypes := #[9, 3] }, type := 3, pos := "law.go:102", after := #[{ on := 21, ground := Ground.data }, { on := 22, ground := Ground.data }, { on := 19, ground := Ground.chain }, { on := 19, ground := Ground.guard }], guard := some (19, true) }) rfl (fun K hK => ?_) AllReadyH.nil
        go_simp
        go_at_call 25
        have D6' : Below w5.heap.size w5 w6 := D6
        with_reducible refine (F8'.out w6 (HU.out.later (B5.trans (D6'.mono B5.size)))).mono ?_
        rintro e w7 ⟨rfl, b7⟩
        have D7 : Below w5.heap.size w5 w7 := D6'.trans (b7.mono D6'.size)
        obtain ⟨z0, z1, _, _⟩ := buf_cells ((D7.block _ l5).trans H5.out)
        refine hK.out _ _ ⟨z0, z1⟩ (fun hHeld => ?_)
        clear hK K
        try simp only [Act.put, List.setIfInBounds_toArray, List.set_cons_zero, List.set_cons_succ]
        refine wpAnyH_take (i := 26) (oi := { dst := some 54, op := Op.binOp BinOp.neq 3 (Operand.tmp 51) (Operand.tmp 53) 3, type := 4, pos := "law.go:102", after := #[{ on := 23, ground := Ground.data }, { on := 25, ground := Ground.data }, { on := 19, ground := Ground.guard }], guard := some (19, true) }) (v := ?_) rfl (by kernel_rfl) (by kernel_rfl) (by kernel_rfl) (fun _ _ _ h => h) (Or.inl ⟨by rfl, ?hy26⟩) (by assumption) ?_
        case hy26 => (intro w hSw; (try dsimp only at hSw); go_simp); (try with_reducible rfl)
        try simp only [Act.put, List.setIfInBounds_toArray, List.set_cons_zero, List.set_cons_succ]
        refine wpAnyH_take (i := 27) (oi := { dst := some 55, op := Op.pick (Operand.tmp 47) (Operand.tmp 54) (Operand.const (Value.bool false)), type := 4, pos := "law.go:102", after := #[{ on := 19, ground := Ground.data }, { on := 26, ground := Ground.data }, { on := 12, ground := Ground.guard }], guard := some (12, false) }) (v := ?_) rfl (by kernel_rfl) (by kernel_rfl) (by kernel_rfl) (fun _ _ _ h => h) (Or.inl ⟨by rfl, ?hy27⟩) (by assumption) ?_
        case hy27 => (intro w hSw; (try dsimp only at hSw); go_simp); (try with_reducible rfl)
        try simp only [Act.put, List.setIfInBounds_toArray, List.set_cons_zero, List.set_cons_succ]
        refine wpAnyH_take (i := 28) (oi := { dst := some 56, op := Op.pick (Operand.tmp 40) (Operand.const (Value.bool true)) (Operand.tmp 55), type := 4, pos := "law.go:102", after := #[{ on := 12, ground := Ground.data }, { on := 27, ground := Ground.data }], guard := none }) (v := ?_) rfl (by kernel_rfl) (by kernel_rfl) (by kernel_rfl) (fun _ _ _ h => h) (Or.inl ⟨by rfl, ?hy28⟩) (by assumption) ?_
        case hy28 => (intro w hSw; (try dsimp only at hSw); go_simp); (try with_reducible rfl)
        try simp only [Act.put, List.setIfInBounds_toArray, List.set_cons_zero, List.set_cons_succ]
        refine wpAnyH_take (i := 29) (oi := { dst := some 57, op := Op.move (Operand.tmp 56), type := 4, pos := "law.go:102", after := #[{ on := 28, ground := Ground.data }, { on := 23, ground := Ground.chain }], guard := none }) (v := ?_) rfl (by kernel_rfl) (by kernel_rfl) (by kernel_rfl) (fun _ _ _ h => h) (Or.inl ⟨by rfl, ?hy29⟩) (by assumption) ?_
        case hy29 => (intro w hSw; (try dsimp only at hSw); go_simp); (try with_reducible rfl)
        try simp only [Act.put, List.setIfInBounds_toArray, List.set_cons_zero, List.set_cons_succ]
        refine wpAnyH_take (i := 30) (oi := { dst := some 58, op := Op.move (Operand.tmp 6), type := 3, pos := "law.go:102", after := #[{ on := 29, ground := Ground.guard }], guard := some (29, false) }) (v := ?_) rfl (by kernel_rfl) (by kernel_rfl) (by kernel_rfl) (fun _ _ _ h => h) (Or.inl ⟨by rfl, ?hy30⟩) (by assumption) ?_
        case hy30 => (intro w hSw; (try dsimp only at hSw); go_simp); (try with_reducible rfl)
        try simp only [Act.put, List.setIfInBounds_toArray, List.set_cons_zero, List.set_cons_succ]
        refine wpAnyH_take (i := 31) (oi := { dst := some 59, op := Op.fieldAddr 25 (Operand.tmp 5) 1, type := 0, pos := "law.go:102", after := #[{ on := 29, ground := Ground.guard }], guard := some (29, false) }) (v := ?_) rfl (by kernel_rfl) (by kernel_rfl) (by kernel_rfl) (fun _ _ _ h => h) (Or.inl ⟨by rfl, ?hy31⟩) (by assumption) ?_
        case hy31 => (intro w hSw; (try dsimp only at hSw); go_simp); (try with_reducible rfl)
        try simp only [Act.put, List.setIfInBounds_toArray, List.set_cons_zero, List.set_cons_succ]
        refine wpAnyH_take (i := 32) (oi := { dst := some 60, op := Op.load 3 (Operand.tmp 59), type := 3, pos := "law.go:102", after := #[{ on := 31, ground := Ground.data }, { on := 29, ground := Ground.guard }], guard := some (29, false) }) (v := ?_) rfl (by kernel_rfl) (by kernel_rfl) (by kernel_rfl) (fun _ _ _ h => h) (Or.inl ⟨by rfl, ?hy32⟩) (by assumption) ?_
        case hy32 => (intro w hSw; (try dsimp only at hSw); go_simp); (try with_reducible rfl)
        try simp only [Act.put, List.setIfInBounds_toArray, List.set_cons_zero, List.set_cons_succ]
        refine wpAnyH_take (i := 33) (oi := { dst := some 61, op := Op.binOp BinOp.gtr 3 (Operand.tmp 58) (Operand.tmp 60) 3, type := 4, pos := "law.go:102", after := #[{ on := 30, ground := Ground.data }, { on := 32, ground := Ground.data }, { on := 29, ground := Ground.guard }], guard := some (29, false) }) (v := ?_) rfl (by kernel_rfl) (by kernel_rfl) (by kernel_rfl) (fun _ _ _ h => h) (Or.inl ⟨by rfl, ?hy33⟩) (by assumption) ?_
        case hy33 => (intro w hSw; (try dsimp only at hSw); go_simp); (try with_reducible rfl)
        try simp only [Act.put, List.setIfInBounds_toArray, List.set_cons_zero, List.set_cons_succ]
        refine wpAnyH_take (i := 34) (oi := { dst := some 62, op := Op.pick (Operand.tmp 57) (Operand.const (Value.bool true)) (Operand.tmp 61), type := 4, pos := "law.go:102", after := #[{ on := 29, ground := Ground.data }, { on := 33, ground := Ground.data }], guard := none }) (v := ?_) rfl (by kernel_rfl) (by kernel_rfl) (by kernel_rfl) (fun _ _ _ h => h) (Or.inl ⟨by rfl, ?hy34⟩) (by assumption) ?_
        case hy34 => (intro w hSw; (try dsimp only at hSw); go_simp); (try with_reducible rfl)
        try simp only [Act.put, List.setIfInBounds_toArray, List.set_cons_zero, List.set_cons_succ]
        refine wpAnyH_take (i := 35) (oi := { dst := some 63, op := Op.move (Operand.tmp 62), type := 4, pos := "law.go:102", after := #[{ on := 34, ground := Ground.data }, { on := 29, ground := Ground.chain }], guard := none }) (v := ?_) rfl (by kernel_rfl) (by kernel_rfl) (by kernel_rfl) (fun _ _ _ h => h) (Or.inl ⟨by rfl, ?hy35⟩) (by assumption) ?_
        case hy35 => (intro w hSw; (try dsimp only at hSw); go_simp); (try with_reducible rfl)
        try simp only [Act.put, List.setIfInBounds_toArray, List.set_cons_zero, List.set_cons_succ]
        refine wpAnyH_take (i := 36) (oi := { dst := some 64, op := Op.move (Operand.tmp 7), type := 3, pos := "law.go:102", after := #[{ on := 35, ground := Ground.guard }], guard := some (35, false) }) (v := ?_) rfl (by kernel_rfl) (by kernel_rfl) (by kernel_rfl) (fun _ _ _ h => h) (Or.inl ⟨by rfl, ?hy36⟩) (by assumption) ?_
        case hy36 => (intro w hSw; (try dsimp only at hSw); go_simp); (try with_reducible rfl)
        try simp only [Act.put, List.setIfInBounds_toArray, List.set_cons_zero, List.set_cons_succ]
        refine wpAnyH_take (i := 37) (oi := { dst := some 65, op := Op.fieldAddr 25 (Operand.tmp 5) 1, type := 0, pos := "law.go:102", after := #[{ on := 35, ground := Ground.guard }], guard := some (35, false) }) (v := ?_) rfl (by kernel_rfl) (by kernel_rfl) (by kernel_rfl) (fun _ _ _ h => h) (Or.inl ⟨by rfl, ?hy37⟩) (by assumption) ?_
        case hy37 => (intro w hSw; (try dsimp only at hSw); go_simp); (try with_reducible rfl)
        try simp only [Act.put, List.setIfInBounds_toArray, List.set_cons_zero, List.set_cons_succ]
        refine wpAnyH_take (i := 38) (oi := { dst := some 66, op := Op.load 3 (Operand.tmp 65), type := 3, pos := "law.go:102", after := #[{ on := 37, ground := Ground.data }, { on := 35, ground := Ground.guard }], guard := some (35, false) }) (v := ?_) rfl (by kernel_rfl) (by kernel_rfl) (by kernel_rfl) (fun _ _ _ h => h) (Or.inl ⟨by rfl, ?hy38⟩) (by assumption) ?_
        case hy38 => (intro w hSw; (try dsimp only at hSw); go_simp); (try with_reducible rfl)
        try simp only [Act.put, List.setIfInBounds_toArray, List.set_cons_zero, List.set_cons_succ]
        refine wpAnyH_take (i := 39) (oi := { dst := some 67, op := Op.binOp BinOp.lss 3 (Operand.tmp 64) (Operand.tmp 66) 3, type := 4, pos := "law.go:102", after := #[{ on := 36, ground := Ground.data }, { on := 38, ground := Ground.data }, { on := 35, ground := Ground.guard }], guard := some (35, false) }) (v := ?_) rfl (by kernel_rfl) (by kernel_rfl) (by kernel_rfl) (fun _ _ _ h => h) (Or.inl ⟨by rfl, ?hy39⟩) (by assumption) ?_
        case hy39 => (intro w hSw; (try dsimp only at hSw); go_simp); (try with_reducible rfl)
        try simp only [Act.put, List.setIfInBounds_toArray, List.set_cons_zero, List.set_cons_succ]
        refine wpAnyH_take (i := 40) (oi := { dst := some 68, op := Op.pick (Operand.tmp 63) (Operand.const (Value.bool true)) (Operand.tmp 67), type := 4, pos := "law.go:102", after := #[{ on := 35, ground := Ground.data }, { on := 39, ground := Ground.data }], guard := none }) (v := ?_) rfl (by kernel_rfl) (by kernel_rfl) (by kernel_rfl) (fun _ _ _ h => h) (Or.inl ⟨by rfl, ?hy40⟩) (by assumption) ?_
        case hy40 => (intro w hSw; (try dsimp only at hSw); go_simp); (try with_reducible rfl)
        try simp only [Act.put, List.setIfInBounds_toArray, List.set_cons_zero, List.set_cons_succ]
        refine wpAnyH_done (by kernel_rfl) ?_ _
        have DE : Below w5.heap.size w5 w7 := D7
        obtain ⟨v9, hv9⟩ : ∃ W, W = w7 := ⟨_, rfl⟩
        rw [← hv9] at DE ⊢
        clear hv9
        clear y0 y1
        obtain ⟨u0, u1, _, _⟩ := buf_cells ((DE.block _ l5).trans H5.out)
        have h9 := (DE.block _ l5).trans H5.out
        have H9 := Lib.hid h9
        have l9 := lt_of_heap h9
        have B9 := B5.trans (DE.mono B5.size)
        clear h9 DE
        go_wp2_with fail
        go_region_held3 (fun w' => w'.cell? ⟨w2.heap.size, 0, none⟩ = some (.string bq) ∧ w'.cell? ⟨w2.heap.size, 1, none⟩ = some (.int .i64 x)) (first | exact ⟨u0, u1⟩ | exact ⟨r0, r1⟩ | exact ⟨t0, t1⟩) (first
          | (go_at_call 27; (with_reducible refine (F3.out v9.drew (HU.out.later B9.drew)).mono ?_); rintro e wa ⟨rfl, ba⟩; have DA : Below v9.heap.size v9 wa := ((Below.refl _ v9).drew).trans ba; obtain ⟨r0, r1, _, _⟩ := buf_cells ((DA.block _ l9).trans H9.out))
          | (go_at_call 28; (with_reducible refine (F4.out wa (HU.out.later (B9.trans (DA.mono B9.size)))).mono ?_); rintro e wb ⟨rfl, bb⟩; have DB : Below v9.heap.size v9 wb := DA.trans (bb.mono DA.size); obtain ⟨t0, t1, _, _⟩ := buf_cells ((DB.block _ l9).trans H9.out)))
        have BB := B9.trans (DB.mono B9.size)
        have hB := (DB.block _ l9).trans H9.out
        have HBB := Lib.hid hB
        have lB := lt_of_heap hB
        clear hB
        go_wp2_with fail
        refine (AL.out wb (HU.out.later BB)).mono ?_
        rintro e wc ⟨rfl, bc⟩
        have BC := BB.trans (bc.mono BB.size)
        have hC := (bc.block _ lB).trans HBB.out
        obtain ⟨m0, m1, _, _⟩ := buf_cells hC
        have HCC := Lib.hid hC
        have lC := lt_of_heap hC
        clear hC
        have e1 : decide ((0 : Int) ≤ (lf : Int)) = true := by simp
        have e2 : decide ((lf : Int) ≤ (p : Int)) = true := by simp; omega
        have e2' : decide (lf ≤ p) = true := by simp; omega
        have e3 : decide ((n : Int) ≤ (rt : Int)) = true := by simp; omega
        have e3' : decide (n ≤ rt) = true := by simp; omega
        have e4 : decide ((rt : Int) ≤ (bq.size : Int)) = true := by simp; omega
        have e4' : decide (rt ≤ bq.size) = true := by simp; omega
        go_wp2_with fail
        refine (F5.out wc (HU.out.later BC)).mono ?_
        rintro e wd ⟨rfl, bd⟩
        have BD := BC.trans (bd.mono BC.size)
        obtain ⟨n0, n1, _, _⟩ := buf_cells ((bd.block _ lC).trans HCC.out)
        clear m0 m1
        go_wp2_with fail
        refine (F6.out wd (HU.out.later BD)).mono ?_
        rintro e we ⟨rfl, be⟩
        go_wp2
        go_ret
        exact ⟨rfl, BD.trans (be.mono BD.size)⟩
end Go.Proofs.YtcifakmlfndlaaaDoor
