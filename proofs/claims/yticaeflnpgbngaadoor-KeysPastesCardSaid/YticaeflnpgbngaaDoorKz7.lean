import Derived.Test.YticaeflnpgbngaaDoorKz6
namespace Go.Proofs.YticaeflnpgbngaaDoor
set_option linter.unusedVariables false
set_option linter.unusedSimpArgs false
open Go.RowKit Go.Maps
/-! KeysLetters. -/
theorem let_all1 : ∀ n : Fin 128, n.val ≠ 27 → (putD Dc.new (UInt8.ofNat n.val)).1.length = 1 ∧ (putD Dc.new (UInt8.ofNat n.val)).2 = Dc.new := by decide +kernel
theorem let_law1 (x : UInt8) (h : x.toNat < 128) (h2 : x ≠ 27) : ∃ q, putD Dc.new x = ([q], Dc.new) := by
  have e : UInt8.ofNat x.toNat = x := UInt8.toNat_inj.1 (by rw [UInt8.toNat_ofNat', Nat.mod_eq_of_lt (by have := x.toNat_lt; omega)])
  obtain ⟨h3, h4⟩ := let_all1 ⟨x.toNat, h⟩ (fun e2 => h2 (UInt8.toNat_inj.1 e2))
  rw [e] at h3 h4
  match hp : putD Dc.new x, h3, h4 with
  | ([q], d), _, h4 => exact ⟨q, by dsimp only at h4; rw [h4]⟩
theorem let_law2 (x : UInt8) (h : x.toNat < 128) (h1 : ¬ x.toNat < 32) (h2 : x ≠ 91) (h3 : x ≠ 79) : feedD Dc.new [27, x] = ([kb (letK x)], Dc.new) := by
  have e1 : putD Dc.new 27 = ([], ⟨1, [], [], 0, [], 0⟩) := al4_2
  have e2 : putD ⟨1, [], [], 0, [], 0⟩ x = ([kb (letK x)], Dc.new) := by
    show behindD ⟨1, [], [], 0, [], 0⟩ x = _
    unfold behindD
    rw [if_neg h2, if_neg h3, if_neg (by omega)]
    rfl
  rw [feedD, e1]
  dsimp only
  rw [feedD_one, e2]
  rfl
theorem letK_ne (x : UInt8) : letK x ≠ 1 ∧ letK x ≠ 27 := by
  unfold letK
  repeat' split
  all_goals (exact ⟨by decide, by decide⟩)
theorem Ses2.put {w : World} {a b : Nat} {d e0 : Dc} {W1 : World} (h : Ses2 w a d b e0 W1) (hU : U8 w) {bb : Bs} (hr : RelD d bb) (hb : bb.length ≤ 70000) (l : Bs) (hl : l.length ≤ 100) :
    Calls Tryd.prog 21 #[dptr a, .slice (some ⟨W1.heap.size, 0, none⟩) l.length l.length] (W1.alloc (.cells (l.map byt).toArray 5)) (TellsS2 w a b e0 (W1.alloc (.cells (l.map byt).toArray 5)) (feedD d l)) :=
  s2Feed_calls h ((Below.refl W1.heap.size W1).alloc (Nat.le_refl _) _) hU hr (some ⟨W1.heap.size, 0, none⟩) l.length l (rd_new_bytes W1 l (0, 0)) (fun x hx _ => .inr (by cases hx; exact Nat.le_refl _)) (by omega)
set_option maxRecDepth 100000 in
set_option maxHeartbeats 6400000 in
theorem KeysLetters_walk (w : World) (hU : U8 w) (A : Option Addr) (c : Nat) (l : Bs) (hr : RdB w A l) (x : UInt8) :
    Calls Tryd.prog 9 #[.slice A l.length c, byt x] w fun e w' => e = .returned (.bool true) ∧ Below w.heap.size w w' := by
  have AL := Lib.hid (fun (W : World) (h : Below w.heap.size w W) => al04_calls W (hU.later h))
  have HU := Lib.hid hU
  by_cases h15 : 1000 < l.length
  · have i15 : (1000 : Int) < (l.length : Int) := by omega
    clear h15 hr hU
    go_enter Tryd.func9, Tryd.ntmps9
    go_wp2_with (refine (AL.out w (Below.refl _ _)).mono ?_; rintro e w1 ⟨rfl, b1⟩)
    go_ret
    exact ⟨rfl, b1⟩
  have i15 : ¬ (1000 : Int) < (l.length : Int) := by omega
  have S0 := Lib.hid (Ses2.new w)
  obtain ⟨W0, hW0⟩ : ∃ W0, W0 = (w.alloc decO).alloc decO := ⟨_, rfl⟩
  have hS0 : Hid (Ses2 w w.heap.size Dc.new (w.heap.size + 1) Dc.new W0) := Lib.hid (by rw [hW0]; exact S0.out)
  have hb0 := hS0.out.below
  have HW0 := Lib.hid hW0
  have F1 := Lib.hid (s2Feed_calls hS0.out (Below.refl W0.heap.size W0) hU RelD.new A c l (Rd.later hr hb0) (fun x hx hne => .inl (Rd.lt hr hx (by simpa using hne))) (by simp; omega))
  obtain ⟨cc, rr, rrl⟩ := feed_relL l RelD.new
  obtain ⟨o1, ho1⟩ : ∃ o, o = feedD Dc.new l := ⟨_, rfl⟩
  rw [← ho1] at F1 rr
  clear S0 hW0 hb0 hr ho1
  have hwt := waits_iff rr
  have WT := Lib.hid (fun (W : World) (h : Ses2 w w.heap.size o1.2 (w.heap.size + 1) Dc.new W) => s2Waits_calls h)
  by_cases hcc : cc ≠ []
  · rw [hwt, decide_eq_true hcc] at WT
    clear hwt hcc rr rrl hU
    go_enter Tryd.func9, Tryd.ntmps9
    go_wp2_with fail
    rw [← HW0.out]
    refine F1.out.mono ?_
    rintro e w1 ⟨v1, rfl, _, S1, _, _⟩
    go_wp2_with fail
    refine (WT.out w1 S1).mono ?_
    rintro e w1' ⟨rfl, rfl⟩
    go_wp2_with fail
    refine (AL.out w1 S1.below).mono ?_
    rintro e w4 ⟨rfl, b4⟩
    have HB := Lib.hid (S1.later b4).below
    go_wp2
    go_ret
    exact ⟨rfl, HB.out⟩
  have hcc : cc = [] := Classical.not_not.1 hcc
  rw [hwt, decide_eq_false (by simpa using hcc)] at WT
  rw [hcc] at rr
  clear hwt hcc rrl
  by_cases h128 : 128 ≤ x.toNat
  · have i1 : (128 : Int) ≤ (x.toNat : Int) := by omega
    clear rr hU h128
    go_enter Tryd.func9, Tryd.ntmps9
    go_wp2_with fail
    rw [← HW0.out]
    refine F1.out.mono ?_
    rintro e w1 ⟨v1, rfl, _, S1, _, _⟩
    go_wp2_with fail
    refine (WT.out w1 S1).mono ?_
    rintro e w1' ⟨rfl, rfl⟩
    go_wp2_with fail
    refine (AL.out w1 S1.below).mono ?_
    rintro e w4 ⟨rfl, b4⟩
    have HB := Lib.hid (S1.later b4).below
    go_wp2
    go_ret
    exact ⟨rfl, HB.out⟩
  have i1 : ¬ (128 : Int) ≤ (x.toNat : Int) := by omega
  have d1 : decide ((128 : Int) ≤ (x.toNat : Int)) = false := decide_eq_false i1
  by_cases h27 : x = 27
  · subst h27
    clear rr hU h128
    go_enter Tryd.func9, Tryd.ntmps9
    go_wp2_with fail
    rw [← HW0.out]
    refine F1.out.mono ?_
    rintro e w1 ⟨v1, rfl, _, S1, _, _⟩
    go_wp2_with fail
    refine (WT.out w1 S1).mono ?_
    rintro e w1' ⟨rfl, rfl⟩
    go_wp2_with fail
    refine (AL.out w1 S1.below).mono ?_
    rintro e w4 ⟨rfl, b4⟩
    have HB := Lib.hid (S1.later b4).below
    go_wp2
    go_ret
    exact ⟨rfl, HB.out⟩
  have i2 : ((x.toNat : Int) == 27) = false := ne_lit 27 (by decide) h27
  obtain ⟨q, hq⟩ := let_law1 x (by omega) h27
  have hp := (put_new rr x).trans hq
  have F2 := Lib.hid (fun (W : World) (h : Ses2 w w.heap.size o1.2 (w.heap.size + 1) Dc.new W) => h.put hU rr (by simp) [x] (by simp))
  have F3 := Lib.hid (fun (W : World) (h : Ses2 w (w.heap.size + 1) Dc.new w.heap.size Dc.new W) => h.put hU RelD.new (by simp) [x] (by simp))
  have hx1 : ([x] : Bs).map byt = [byt x] := rfl
  rw [feedD_one, hp, hx1] at F2
  rw [feedD_one, hq, hx1] at F3
  rw [show ([x] : Bs).length = 1 from rfl] at F2 F3
  obtain ⟨sq, hsq⟩ : ∃ s : ByteArray, s = ⟨q.t.toArray⟩ := ⟨_, rfl⟩
  have hne9 := Tryd.neq_key sq (q.k : Int)
  have HSQ := Lib.hid hsq
  clear hq hp rr hsq h128 hx1
  have FIN : ∀ W1 B v, RowK W1 B v [q] → ∃ g off c, v = .slice (some ⟨g, off, none⟩) 1 c ∧ W1.cell? ⟨g, off, none⟩ = some (n64 q.k) ∧ W1.cell? ⟨g, off + 1, none⟩ = some (.string sq) := fun W1 B v h => by
    obtain ⟨g, off, c, e, a1, a2⟩ := row_key h (k := 0) (q := q) rfl
    rw [lit_of HSQ.out] at a2
    exact ⟨g, off, c, e, a1, a2⟩
  have HFIN := Lib.hid FIN
  clear FIN
  by_cases h32 : x.toNat < 32
  · have i3 : (x.toNat : Int) < 32 := by omega
    have d3 : decide ((x.toNat : Int) < 32) = true := decide_eq_true i3
    clear h32 hU
    go_enter Tryd.func9, Tryd.ntmps9
    go_wp2_with fail
    rw [← HW0.out]
    refine F1.out.mono ?_
    rintro e w1 ⟨v1, rfl, _, S1, _, _⟩
    go_wp2_with fail
    refine (WT.out w1 S1).mono ?_
    rintro e w1' ⟨rfl, rfl⟩
    go_wp2_with fail
    refine (F2.out w1 S1).mono ?_
    rintro e w2 ⟨v2, rfl, hv2, S2, k2, hs2⟩
    go_wp2_with fail
    refine (F3.out w2 S2.swap).mono ?_
    rintro e w3 ⟨v3, rfl, hv3, S3, k3, hs3⟩
    obtain ⟨g2, o2, c2, rfl, a1, a2⟩ := HFIN.out _ _ _ (k3 _ _ _ (Row.alloc hv2 _))
    obtain ⟨g3, o3, c3, rfl, a3, a4⟩ := HFIN.out _ _ _ hv3
    have l1 : ([q] : List KeyT).length = 1 := rfl
    go_wp2
    go_quiet (fail)
    rename_i nq
    have S4 := S3.later (W' := w3.drewN nq) ⟨rfl, rfl, rfl, Nat.le_refl _, fun _ _ => rfl⟩
    go_wp2_with fail
    refine (AL.out _ S4.below).mono ?_
    rintro e w5 ⟨rfl, b5⟩
    have HB := Lib.hid (S4.later b5).below
    go_wp2
    go_ret
    exact ⟨rfl, HB.out⟩
  have i3 : ¬ (x.toNat : Int) < 32 := by omega
  have d3 : decide ((x.toNat : Int) < 32) = false := decide_eq_false i3
  by_cases h91 : x = 91
  · subst h91
    clear h32 hU
    go_enter Tryd.func9, Tryd.ntmps9
    go_wp2_with fail
    rw [← HW0.out]
    refine F1.out.mono ?_
    rintro e w1 ⟨v1, rfl, _, S1, _, _⟩
    go_wp2_with fail
    refine (WT.out w1 S1).mono ?_
    rintro e w1' ⟨rfl, rfl⟩
    go_wp2_with fail
    refine (F2.out w1 S1).mono ?_
    rintro e w2 ⟨v2, rfl, hv2, S2, k2, hs2⟩
    go_wp2_with fail
    refine (F3.out w2 S2.swap).mono ?_
    rintro e w3 ⟨v3, rfl, hv3, S3, k3, hs3⟩
    obtain ⟨g2, o2, c2, rfl, a1, a2⟩ := HFIN.out _ _ _ (k3 _ _ _ (Row.alloc hv2 _))
    obtain ⟨g3, o3, c3, rfl, a3, a4⟩ := HFIN.out _ _ _ hv3
    have l1 : ([q] : List KeyT).length = 1 := rfl
    go_wp2
    go_quiet (fail)
    rename_i nq
    have S4 := S3.later (W' := w3.drewN nq) ⟨rfl, rfl, rfl, Nat.le_refl _, fun _ _ => rfl⟩
    go_wp2_with fail
    refine (AL.out _ S4.below).mono ?_
    rintro e w5 ⟨rfl, b5⟩
    have HB := Lib.hid (S4.later b5).below
    go_wp2
    go_ret
    exact ⟨rfl, HB.out⟩
  have i4 : ((x.toNat : Int) == 91) = false := ne_lit 91 (by decide) h91
  have j4 : ¬ (x.toNat : Int) = 91 := fun e => by rw [e] at i4; cases i4
  by_cases h79 : x = 79
  · subst h79
    clear h32 hU
    go_enter Tryd.func9, Tryd.ntmps9
    go_wp2_with fail
    rw [← HW0.out]
    refine F1.out.mono ?_
    rintro e w1 ⟨v1, rfl, _, S1, _, _⟩
    go_wp2_with fail
    refine (WT.out w1 S1).mono ?_
    rintro e w1' ⟨rfl, rfl⟩
    go_wp2_with fail
    refine (F2.out w1 S1).mono ?_
    rintro e w2 ⟨v2, rfl, hv2, S2, k2, hs2⟩
    go_wp2_with fail
    refine (F3.out w2 S2.swap).mono ?_
    rintro e w3 ⟨v3, rfl, hv3, S3, k3, hs3⟩
    obtain ⟨g2, o2, c2, rfl, a1, a2⟩ := HFIN.out _ _ _ (k3 _ _ _ (Row.alloc hv2 _))
    obtain ⟨g3, o3, c3, rfl, a3, a4⟩ := HFIN.out _ _ _ hv3
    have l1 : ([q] : List KeyT).length = 1 := rfl
    go_wp2
    go_quiet (fail)
    rename_i nq
    have S4 := S3.later (W' := w3.drewN nq) ⟨rfl, rfl, rfl, Nat.le_refl _, fun _ _ => rfl⟩
    go_wp2_with fail
    refine (AL.out _ S4.below).mono ?_
    rintro e w5 ⟨rfl, b5⟩
    have HB := Lib.hid (S4.later b5).below
    go_wp2
    go_ret
    exact ⟨rfl, HB.out⟩
  have i5 : ((x.toNat : Int) == 79) = false := ne_lit 79 (by decide) h79
  have j5 : ¬ (x.toNat : Int) = 79 := fun e => by rw [e] at i5; cases i5
  have hl2 := let_law2 x (by omega) h32 h91 h79
  have F4 := Lib.hid (fun (W : World) (h : Ses2 w w.heap.size Dc.new (w.heap.size + 1) Dc.new W) => h.put hU RelD.new (by simp) [27, x] (by simp))
  have hx2 : ([27, x] : Bs).map byt = [.int .u8 27, byt x] := rfl
  rw [hl2, hx2, show ([27, x] : Bs).length = 2 from rfl] at F4
  have W4 := Lib.hid (fun (W : World) (h : Ses2 w w.heap.size Dc.new (w.heap.size + 1) Dc.new W) => s2Waits_calls h)
  rw [show waitsD Dc.new = false from rfl] at W4
  obtain ⟨n1, n2⟩ := letK_ne x
  obtain ⟨y, hy⟩ : ∃ y, y = letK x := ⟨_, rfl⟩
  rw [← hy] at n1 n2 F4
  have m1 : ((y : Int) != 1) = true := by simp; omega
  have m2 : ((y : Int) != 27) = true := by simp; omega
  clear h32 hU hl2 hx2 h91 h79 hy n1 n2
  go_enter Tryd.func9, Tryd.ntmps9
  go_wp2_with fail
  rw [← HW0.out]
  refine F1.out.mono ?_
  rintro e w1 ⟨v1, rfl, _, S1, _, _⟩
  go_wp2_with fail
  refine (WT.out w1 S1).mono ?_
  rintro e w1' ⟨rfl, rfl⟩
  go_wp2_with fail
  refine (F2.out w1 S1).mono ?_
  rintro e w2 ⟨v2, rfl, hv2, S2, k2, hs2⟩
  go_wp2_with fail
  refine (F3.out w2 S2.swap).mono ?_
  rintro e w3 ⟨v3, rfl, hv3, S3, k3, hs3⟩
  obtain ⟨g2, o2, c2, rfl, a1, a2⟩ := HFIN.out _ _ _ (k3 _ _ _ (Row.alloc hv2 _))
  obtain ⟨g3, o3, c3, rfl, a3, a4⟩ := HFIN.out _ _ _ hv3
  have l1 : ([q] : List KeyT).length = 1 := rfl
  go_wp2
  go_quiet (fail)
  rename_i nq
  have S4 := S3.later (W' := w3.drewN nq) ⟨rfl, rfl, rfl, Nat.le_refl _, fun _ _ => rfl⟩
  go_wp2_with fail
  refine (F4.out _ S4.swap).mono ?_
  rintro e w5 ⟨v5, rfl, hv5, S5, k5, hs5⟩
  go_wp2_with fail
  refine (AL.out _ S5.below).mono ?_
  rintro e w6 ⟨rfl, b6⟩
  have S6 := S5.later b6
  obtain ⟨g5, o5, c5, rfl, a5, _⟩ := row_key (hv5.below b6 (Nat.le_refl _)) (k := 0) (q := kb y) rfl
  have a5' : w6.cell? ⟨g5, o5, none⟩ = some (n64 y) := a5
  have l5 : ([kb y] : List KeyT).length = 1 := rfl
  have HB := Lib.hid S6.below
  go_wp2_with fail
  refine (W4.out _ S6).mono ?_
  rintro e w7 ⟨rfl, rfl⟩
  go_wp2
  go_ret
  exact ⟨rfl, HB.out⟩
end Go.Proofs.YticaeflnpgbngaaDoor
