import Derived.Test.YtfgjhfmgacopoaaDoorLq0
import Derived.Test.YtfgjhfmgacopoaaDoorLo19
namespace Go.Proofs.YtfgjhfmgacopoaaDoor
set_option linter.unusedVariables false
set_option linter.unusedSimpArgs false
open Go.RowKit Go.Shelf
/-! Chapter 18: LayoutDots, walked. -/
theorem dotF_step {l : RowT} {j : Nat} {x : CellT} (h : l[j]? = some x) : dotF (l.take (j + 1)) = if x.dim then ((dotF (l.take j)).1 + 1, decide (x.s = dotsB)) else dotF (l.take j) := by
  rw [List.take_add_one, h]
  exact dotF_snoc _ _
theorem dotF_le (l : RowT) : (dotF l).1 ≤ l.length := by
  have key : ∀ (l : RowT) (p : Nat × Bool), (l.foldl (fun p c => if c.dim then (p.1 + 1, decide (c.s = dotsB)) else p) p).1 ≤ p.1 + l.length := by
    intro l
    induction l with
    | nil => intro p; exact Nat.le_refl _
    | cons c l ih =>
      intro p
      rw [List.foldl_cons, List.length_cons]
      refine Nat.le_trans (ih _) ?_
      split
      · dsimp only; omega
      · omega
  have := key l (0, false)
  unfold dotF; omega
set_option maxHeartbeats 4000000 in
set_option maxRecDepth 100000 in
theorem LayoutDots_walk (cols : Int) (l : Bs) (hl : l.length ≤ 140737488351232) (s : ByteArray) (hs : s = ⟨l.toArray⟩) (w : World) (hU : U8 w) :
    Calls Tryd.prog 5 #[.int .i64 cols, .string s] w fun e w' => e = .returned (.bool true) ∧ Below w.heap.size w w' := by
  have AL := Lib.hid (fun W (h : Below w.heap.size w W) => al18_calls W (hU.later h))
  have hsz : s.size = l.length := by rw [hs, str_of]
  have HS := Lib.hid hs
  have HSZ := Lib.hid hsz
  by_cases h1 : 1000 < l.length
  · have t1 : (1000 : Int) < (s.size : Int) := by rw [hsz]; omega
    clear hs hsz
    go_enter Tryd.func5, Tryd.ntmps5
    go_wp2_with fail
    refine (AL.out _ (Below.refl _ _)).mono ?_
    rintro e w2 ⟨rfl, D2⟩
    go_wp2_with fail
    go_ret
    exact ⟨rfl, D2⟩
  have t1 : (s.size : Int) ≤ 1000 := by rw [hsz]; omega
  have PL := Lib.hid (fun W => lawPlain_calls l (by omega) s hs W)
  obtain ⟨sp, hsp⟩ : ∃ sp : ByteArray, sp = ⟨(pl l).toArray⟩ := ⟨_, rfl⟩
  have hpz : sp.size = (pl l).length := by rw [hsp, str_of]
  have hp4 := pl_len l
  rw [show str (pl l) = .string sp by rw [hsp]] at PL
  by_cases h2 : 1200 < (pl l).length
  · have t2 : (1200 : Int) < (sp.size : Int) := by rw [hpz]; omega
    clear hs hsz hsp hpz
    go_enter Tryd.func5, Tryd.ntmps5
    go_wp2_with fail
    refine (PL.out _).mono ?_
    rintro e w1 ⟨rfl, D1⟩
    go_wp2_with fail
    refine (AL.out _ D1).mono ?_
    rintro e w2 ⟨rfl, D2⟩
    go_wp2_with fail
    go_ret
    exact ⟨rfl, D1.trans (D2.mono D1.size)⟩
  have t2 : (sp.size : Int) ≤ 1200 := by rw [hpz]; omega
  by_cases h3 : cols < 2
  · clear hs hsz hsp hpz
    go_enter Tryd.func5, Tryd.ntmps5
    go_wp2_with fail
    refine (PL.out _).mono ?_
    rintro e w1 ⟨rfl, D1⟩
    go_wp2_with fail
    refine (AL.out _ D1).mono ?_
    rintro e w2 ⟨rfl, D2⟩
    go_wp2_with fail
    go_ret
    exact ⟨rfl, D1.trans (D2.mono D1.size)⟩
  by_cases h4 : 120 < cols
  · have h3' : 2 ≤ cols := by omega
    clear hs hsz hsp hpz h3
    go_enter Tryd.func5, Tryd.ntmps5
    go_wp2_with fail
    refine (PL.out _).mono ?_
    rintro e w1 ⟨rfl, D1⟩
    go_wp2_with fail
    refine (AL.out _ D1).mono ?_
    rintro e w2 ⟨rfl, D2⟩
    go_wp2_with fail
    go_ret
    exact ⟨rfl, D1.trans (D2.mono D1.size)⟩
  obtain ⟨cc, rfl⟩ : ∃ cc : Nat, cols = (cc : Int) := ⟨cols.toNat, by omega⟩
  have c1 : 2 ≤ (cc : Int) := by omega
  have c2 : (cc : Int) ≤ 120 := by omega
  obtain ⟨ho, hcc⟩ := ghV_of (c := (cc : Int)) (g := l) c1 c2 (by omega)
  rw [Int.toNat_natCast] at ho hcc
  have gd := ghost_dots cc (pl l) (by omega)
  obtain ⟨R, hR⟩ : ∃ R, R = padP cc (ghostP cc 0 (pl l)) := ⟨_, rfl⟩
  rw [← hR] at ho gd
  obtain ⟨sm, hsm⟩ : ∃ sm, sm = wsum (cuts (pl l)) := ⟨_, rfl⟩
  rw [← hsm] at gd
  have SU := Lib.hid (fun W => rSum_calls (pl l) (by omega) sp hsp W)
  rw [← hsm] at SU
  have OF := Lib.hid (fun W (h : Below w.heap.size w W) => LOf_calls (ghV (cc : Int) l) (by unfold ViewT.small ghV; simp; omega) W (hU.later h))
  have hRl : R.length = cc := by
    have := (ghV (cc : Int) l).of_cols R (by rw [ho]; exact List.mem_singleton.2 rfl)
    rw [this, ← hcc]
  have HO := Lib.hid ho
  have HGD := Lib.hid gd
  have HRL := Lib.hid hRl
  have hval : (ghV (cc : Int) l).val = .agg #[.int .i64 1, .int .i64 (cc : Int), .string ⟨#[]⟩, .string ⟨#[]⟩, .string s, .string ⟨#[]⟩, .int .i64 0] := by rw [hs]; rfl
  rw [hval] at OF
  have s1 := wsum_le (cuts (pl l))
  rw [← hsm] at s1
  clear hs hsz hsp hpz h1 h2 h3 h4 ho gd hR hsm hRl hval hcc
  go_enter Tryd.func5, Tryd.ntmps5
  go_wp2_with fail
  refine (PL.out _).mono ?_
  rintro e w1 ⟨rfl, D1⟩
  go_wp2_with fail
  refine (OF.out _ D1).mono ?_
  rintro e w2 ⟨vv, rs, rfl, R2, D2⟩
  have B2 : Below w.heap.size w w2 := D1.trans (D2.mono D1.size)
  have F2 := R2.frG (ViewT.c_range _).2
  rw [HO.out] at F2
  obtain ⟨A, cp, hvv, _, _, hrd2, _⟩ := F2.out.rd
  subst hvv
  obtain ⟨r0, hr0⟩ : ∃ r, (rs.map (rowV (ghV (cc : Int) l).c))[0]? = some r := ⟨_, List.getElem?_eq_getElem (by rw [F2.len]; simp)⟩
  obtain ⟨g, o, rfl, i0⟩ := hrd2 0 r0 hr0
  have RX := F2.row 0 r0 R hr0 rfl
  obtain ⟨A1, cx, hv1, _⟩ := RX.rd
  subst hv1
  unfold frV
  obtain ⟨row, hrow⟩ : ∃ r, r = (ghV (cc : Int) l).of.row := ⟨_, rfl⟩
  obtain ⟨col, hcol⟩ : ∃ r, r = (ghV (cc : Int) l).of.col := ⟨_, rfl⟩
  rw [← hrow, ← hcol]
  have HRX := Lib.hid RX
  have HI0 := Lib.hid i0
  have HB2 := Lib.hid B2
  clear hr0 RX F2 R2 hrd2 i0 D1 D2 B2 hrow hcol
  go_upto_region 4 with fail
  obtain ⟨b3, hb3⟩ : ∃ b, b = w2.heap.size := ⟨_, rfl⟩
  obtain ⟨W3, hW3⟩ : ∃ W3, W3 = w2.alloc (.cells #[.slice (some ⟨g, o, none⟩) 1 cp, .int .i64 (row : Int), .int .i64 (col : Int)] 28) := ⟨_, rfl⟩
  have D3 : Below w2.heap.size w2 W3 := by rw [hW3]; exact (Below.refl _ _).alloc (Nat.le_refl _) _
  have X3 : FrB W3 b3 (.slice (some ⟨g, o, none⟩) 1 cp) row col := by rw [hW3, hb3]; exact heap_alloc_new w2 _
  have B3 := Lib.hid (HB2.out.trans (D3.mono HB2.out.size))
  have i3 : W3.cell? ⟨g, o, none⟩ = some (.slice A1 R.length cx) := (D3.cell (World.block_lt_of_cell? w2 _ HI0.out)).trans HI0.out
  have HRX3 := Lib.hid (HRX.out.below D3 (Nat.le_refl _))
  rw [← hW3, ← hb3]
  obtain ⟨p0, p1, p2, q0, q1, q2⟩ := X3.cells
  have t3 : ((R.length : Int) != (cc : Int)) = false := by rw [HRL.out]; simp
  have r5' : (R.length : Int) ≤ 120 := by rw [HRL.out]; exact c2
  clear hW3 hb3 D3 X3 HRX HB2 HI0
  go_wp2_with fail
  go_loopw [6, 7, 51] (fun u6 u7 u51 wr => ∃ (j n : Nat) (d : Bool), u51 = n64 j ∧ j ≤ R.length ∧ u6 = n64 n ∧ u7 = .bool d ∧ Hid (dotF (R.take j) = (n, d)) ∧ Hid (Below W3.heap.size W3 wr)) (fun _ _ u51 _ => R.length - (intOf u51).toNat)
  case atStart => exact ⟨0, 0, false, rfl, Nat.zero_le _, rfl, rfl, Lib.hid (by simp [dotF]), Lib.hid (Below.refl _ _)⟩
  case round =>
    obtain ⟨j, n, d, rfl, hj, rfl, rfl, hnd, hb⟩ := hrel
    have r5 : (R.length : Int) ≤ 120 := by rw [HRL.out]; exact c2
    have n4 : (n : Int) ≤ 120 := by
      have h1 := dotF_le (R.take j)
      rw [hnd.out, List.length_take] at h1
      have := HRL.out
      dsimp only at h1; omega
    by_cases hjl : j < R.length
    · obtain ⟨x, hx⟩ : ∃ x, R[j]? = some x := ⟨_, List.getElem?_eq_getElem hjl⟩
      obtain ⟨g2, o2, e2, a2, a3, a4⟩ := (HRX3.out.below hb.out (Nat.le_refl _)).cell3 rfl hx
      subst e2
      have hg2 : g2 < wr.heap.size := World.block_lt_of_cell? wr _ a2
      have HST := Lib.hid (dotF_step hx)
      obtain ⟨xs, xw, xd⟩ := x
      dsimp only at HST a2 a3 a4
      obtain ⟨sx, hsx⟩ : ∃ s : ByteArray, s = ⟨xs.toArray⟩ := ⟨_, rfl⟩
      replace a2 : wr.cell? ⟨g2, o2 + j * 3, none⟩ = some (.string sx) := by rw [hsx]; exact a2
      have s1 : (j : Int) < (R.length : Int) := by omega
      have hq : (sx.toList == [226, 128, 166]) = decide (xs = dotsB) := by
        have h := str_beq hsx (show (⟨#[226, 128, 166]⟩ : ByteArray) = ⟨dotsB.toArray⟩ from rfl)
        rw [show (⟨#[226, 128, 166]⟩ : ByteArray).toList = [226, 128, 166] from ByteArray.toList_eq _] at h
        exact h
      have HSX := Lib.hid hsx
      clear hsx hx
      cases xd
      · have hnd2 : Hid (dotF (R.take (j + 1)) = (n, d)) := Lib.hid (by rw [HST.out, if_neg (by simp), hnd.out])
        clear hq
        go_wp2_with fail
        go_roundw
        case rel => exact ⟨j + 1, n, d, by go_num, by omega, rfl, rfl, hnd2, Lib.hid (hb.out.alloc hb.out.size _)⟩
        case measure => simp [intOf]; omega
      · have hnd2 : Hid (dotF (R.take (j + 1)) = (n + 1, decide (xs = dotsB))) := Lib.hid (by rw [HST.out, if_pos rfl, hnd.out])
        go_wp2_with fail
        go_roundw
        case rel => exact ⟨j + 1, n + 1, decide (xs = dotsB), by go_num, by omega, by go_num, rfl, hnd2, Lib.hid (hb.out.alloc hb.out.size _)⟩
        case measure => simp [intOf]; omega
    · obtain rfl : j = R.length := by omega
      have hbw := B3.out.trans (hb.out.mono B3.out.size)
      have hg := HGD.out
      have hn := hnd.out
      rw [List.take_length] at hn
      rw [hn] at hg
      dsimp only at hg
      clear p0 p1 p2 q0 q1 q2 i3 hn
      by_cases hs : sm ≤ (cc : Int)
      · rw [if_pos hs] at hg
        have hq2 : ((n : Int) == sm) = true := by simpa using hg
        clear hg
        go_wp2_with fail
        refine (PL.out _).mono ?_
        rintro e w5 ⟨rfl, D5⟩
        go_wp2_with fail
        refine (SU.out _).mono ?_
        rintro e w6 ⟨rfl, D6⟩
        have B6 := (hbw.trans (D5.mono hbw.size)).trans (D6.mono (hbw.trans (D5.mono hbw.size)).size)
        go_wp2_with fail
        refine (AL.out _ B6).mono ?_
        rintro e w7 ⟨rfl, D7⟩
        go_wp2_with fail
        go_ret
        exact ⟨rfl, B6.trans (D7.mono B6.size)⟩
      · rw [if_neg hs] at hg
        obtain ⟨rfl, hg2⟩ := hg
        go_wp2_with fail
        refine (PL.out _).mono ?_
        rintro e w5 ⟨rfl, D5⟩
        go_wp2_with fail
        refine (SU.out _).mono ?_
        rintro e w6 ⟨rfl, D6⟩
        have B6 := (hbw.trans (D5.mono hbw.size)).trans (D6.mono (hbw.trans (D5.mono hbw.size)).size)
        go_wp2_with fail
        refine (AL.out _ B6).mono ?_
        rintro e w7 ⟨rfl, D7⟩
        go_wp2_with fail
        go_ret
        exact ⟨rfl, B6.trans (D7.mono B6.size)⟩
end Go.Proofs.YtfgjhfmgacopoaaDoor
