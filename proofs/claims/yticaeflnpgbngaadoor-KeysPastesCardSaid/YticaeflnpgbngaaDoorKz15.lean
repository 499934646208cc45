import Derived.Test.YticaeflnpgbngaaDoorKz14
import Derived.Test.YticaeflnpgbngaaDoorKp
import Derived.Deep.RegionHeld3
namespace Go.Proofs.YticaeflnpgbngaaDoor
set_option linter.unusedVariables false
set_option linter.unusedSimpArgs false
open Go.RowKit Go.Maps Go.Shelf
/-! KeysPastes. -/
theorem cellD4 {w w' : World} (h : Below w.heap.size w w') {a : Addr} {v : Value} (hc : w.cell? a = some v) : w'.cell? a = some v := by
  rw [h.cell (World.block_lt_of_cell? w a hc)]
  exact hc
/-- The library's own variable holds some number. -/
def G4 (W : World) : Prop := ∃ m, W.cell? ⟨0, 0, none⟩ = some (.int .i64 m)
theorem G4.of {w : World} (h : w.ShapedOpen Tryd.prog) : G4 w := cell_of_shapedOpen_int (P := Tryd.prog) (g := 0) (t := 3) (zero := #[.int .i64 0]) h (of_decide_eq_true (by kernel_rfl)) (by kernel_rfl) rfl (by kernel_rfl) (by kernel_rfl) Tryd.underlying3
def IsB (e : Ending) : Prop := ∃ b, e = .returned (.bool b)
theorem hasSuffixL_calls (s : ByteArray) (hs : s.size ≤ 4294967296) (w : World) :
    Calls Tryd.prog 39 #[.string s, .string ⟨#[27]⟩] w fun e w' => IsB e ∧ w = w' := by
  have h1 : (⟨#[27]⟩ : ByteArray).size = 1 := rfl
  by_cases hl : 1 ≤ s.size
  · have i1 : (1 : Int) ≤ (s.size : Int) := by omega
    have i2 : (0 : Int) ≤ (s.size : Int) - 1 := by omega
    have i3 : (s.size : Int) - 1 ≤ (s.size : Int) := by omega
    go_enter Tryd.func39, Tryd.ntmps39
    go_wp2
    go_ret
    exact ⟨⟨_, rfl⟩, rfl⟩
  · have i1 : ¬ (1 : Int) ≤ (s.size : Int) := by omega
    go_enter Tryd.func39, Tryd.ntmps39
    go_wp2
    go_ret
    exact ⟨⟨_, rfl⟩, rfl⟩
theorem hasSuffix_calls (s : ByteArray) (hs : s.size ≤ 4294967296) (w : World) :
    Calls Tryd.prog 23 #[.string s, .string ⟨#[27]⟩] w fun e w' => IsB e ∧ w = w' := by
  have HC := Lib.hid (hasSuffixL_calls s hs w)
  go_enter Tryd.func23, Tryd.ntmps23
  go_wp2_with fail
  refine HC.out.mono ?_
  rintro e w' ⟨⟨b, rfl⟩, rfl⟩
  go_wp2
  go_ret
  exact ⟨⟨_, rfl⟩, rfl⟩
set_option maxRecDepth 100000 in
set_option maxHeartbeats 6400000 in
theorem KeysPastes_walk (w : World) (hU : U8 w) (hG : G4 w) (s : ByteArray) (hsz : s.size ≤ 140737488351232) (A : Option Addr) (c : Nat) (l : Bs) (hr : RdB w A l) :
    Calls Tryd.prog 10 #[.string s, .slice A l.length c] w fun e w' => e = .returned (.bool true) ∧ Below w.heap.size w w' := by
  have AL := Lib.hid (fun (W : World) (h : Below w.heap.size w W) => al04_calls W (hU.later h))
  obtain ⟨l', rfl⟩ : ∃ l' : Bs, s = ⟨l'.toArray⟩ := ⟨s.data.toList, by cases s; simp⟩
  rw [str_of] at hsz
  obtain ⟨s, hs⟩ : ∃ s : ByteArray, s = ⟨l'.toArray⟩ := ⟨_, rfl⟩
  have hss : s.size = l'.length := by rw [hs, str_of]
  rw [← hs]
  by_cases h12 : 1200 < l'.length
  · have i12 : (1200 : Int) < (l'.length : Int) := by omega
    clear h12 hU hs hr hG
    go_enter Tryd.func10, Tryd.ntmps10
    go_wp2_with (refine (AL.out w (Below.refl _ _)).mono ?_; rintro e w1 ⟨rfl, b1⟩)
    go_ret
    exact ⟨rfl, b1⟩
  have i12 : ¬ (1200 : Int) < (l'.length : Int) := by omega
  by_cases h50 : 500 < l.length
  · have i50 : (500 : Int) < (l.length : Int) := by omega
    clear h12 h50 hU hs hr hG
    go_enter Tryd.func10, Tryd.ntmps10
    go_wp2_with (refine (AL.out w (Below.refl _ _)).mono ?_; rintro e w1 ⟨rfl, b1⟩)
    go_ret
    exact ⟨rfl, b1⟩
  have i50 : ¬ (500 : Int) < (l.length : Int) := by omega
  obtain ⟨s5, hs5⟩ : ∃ q : ByteArray, q = ⟨(l' ++ e5).toArray⟩ := ⟨_, rfl⟩
  have hadd : ∀ W, (Op.stringOp .add s ⟨#[27, 91, 50, 48, 49]⟩).run Tryd.prog W = .ok (.string s5) W := fun W => by
    rw [hs5]; exact add_str (m := e5) hs rfl (by show l'.length + 5 ≤ _; omega) W
  obtain ⟨m0, hm0⟩ := hG
  have hco := Tryd.strings_Contains s5 ⟨#[27, 91, 50, 48, 49, 126]⟩ m0 w (by rw [hs5, str_of, List.length_append]; show l'.length + 5 < _; omega) hm0
  have hcn : Lib.contains s5.data.toList (⟨#[27, 91, 50, 48, 49, 126]⟩ : ByteArray).data.toList = Lib.contains (l' ++ e5) endB := by rw [hs5]; rfl
  rw [hcn] at hco
  have HSF := Lib.hid (hasSuffix_calls s (by omega) w)
  cases hct : Lib.contains (l' ++ e5) endB with
  | true =>
    rw [hct] at hco
    have HCO := Lib.hid hco
    clear h12 h50 hU hs hr hs5 hco hcn hct
    go_enter Tryd.func10, Tryd.ntmps10
    go_wp2_with fail
    refine HCO.out.mono ?_
    rintro e w1 ⟨rfl, rfl⟩
    go_wp2_with (refine (AL.out _ (Below.refl _ _)).mono ?_; rintro e w1 ⟨rfl, b1⟩)
    go_ret
    exact ⟨rfl, b1⟩
  | false =>
    rw [hct] at hco
    have HCO := Lib.hid hco
    have HCT := Lib.hid hct
    have S0 := Lib.hid (Ses.new w w (Below.refl _ _))
    unfold decZ at S0
    obtain ⟨W0, hW0⟩ : ∃ W0, W0 = w.alloc (.cells #[.int .i64 0, .slice none 0 0, .slice none 0 0, .int .i64 0, .string ⟨#[]⟩, .int .i64 0] 29) := ⟨_, rfl⟩
    rw [← hW0] at S0
    have hb0 := S0.out.below
    have F1 := Lib.hid (sFeed_calls S0.out (Below.refl W0.heap.size W0) hU RelD.new A c l (Rd.later hr hb0) (fun a ha hne => .inl (Rd.lt hr ha (by simpa using hne))) (by simp; omega))
    obtain ⟨cc, rr, rrl⟩ := feed_relL l RelD.new
    obtain ⟨o1, ho1⟩ : ∃ o, o = feedD Dc.new l := ⟨_, rfl⟩
    rw [← ho1] at F1 rr
    have HW0 := Lib.hid hW0
    have hwt := waits_iff rr
    have WT := Lib.hid (fun (W : World) (h : Ses w w.heap.size o1.2 W) => sWaits_calls h)
    have HS := Lib.hid hs
    have HU := Lib.hid hU
    by_cases hcc : cc ≠ []
    · rw [hwt, decide_eq_true hcc] at WT
      clear h12 h50 hU hs hr hs5 hco hcn hct hwt hcc rr rrl ho1 hW0 hb0
      go_enter Tryd.func10, Tryd.ntmps10
      go_wp2_with fail
      refine HCO.out.mono ?_
      rintro e w1 ⟨rfl, rfl⟩
      go_wp2_with fail
      refine HSF.out.mono ?_
      rintro e w2 ⟨⟨bb, rfl⟩, rfl⟩
      cases bb with
      | true =>
        go_wp2_with (refine (AL.out _ (Below.refl _ _)).mono ?_; rintro e w1 ⟨rfl, b1⟩)
        go_ret
        exact ⟨rfl, b1⟩
      | false =>
        go_wp2_with fail
        rw [← HW0.out]
        refine F1.out.mono ?_
        rintro e w1 ⟨v1, rfl, _, S1, _⟩
        go_wp2_with fail
        refine (WT.out w1 S1).mono ?_
        rintro e w1' ⟨rfl, rfl⟩
        go_wp2_with fail
        refine (AL.out w1 S1.below).mono ?_
        rintro e w4 ⟨rfl, b4⟩
        have HB := Lib.hid (S1.later b4).below
        go_wp2
        go_ret
        exact ⟨rfl, HB.out⟩
    · have hcc : cc = [] := Classical.not_not.1 hcc
      rw [hwt, decide_eq_false (by simpa using hcc)] at WT
      rw [hcc] at rr
      have hpl := paste_law rr l' (by omega) HCT.out
      obtain ⟨s6, hs6⟩ : ∃ q : ByteArray, q = ⟨(begB ++ l').toArray⟩ := ⟨_, rfl⟩
      have hadd1 : ∀ W, (Op.stringOp .add ⟨#[27, 91, 50, 48, 48, 126]⟩ s).run Tryd.prog W = .ok (.string s6) W := fun W => by
        rw [hs6]; exact add_str (l := begB) rfl hs (by show 6 + l'.length ≤ _; omega) W
      obtain ⟨B, hB⟩ : ∃ B : Bs, B = begB ++ l' ++ endB := ⟨_, rfl⟩
      obtain ⟨s7, hs7⟩ : ∃ q : ByteArray, q = ⟨B.toArray⟩ := ⟨_, rfl⟩
      have hBl : B.length = l'.length + 12 := by rw [hB, List.length_append, List.length_append, show begB.length = 6 from rfl, show endB.length = 6 from rfl]; omega
      have hadd2 : ∀ W, (Op.stringOp .add s6 ⟨#[27, 91, 50, 48, 49, 126]⟩).run Tryd.prog W = .ok (.string s7) W := fun W => by
        rw [hs7, hB]; exact add_str (m := endB) hs6 rfl (by rw [List.length_append]; show 6 + l'.length + 6 ≤ _; omega) W
      rw [← hB] at hpl
      obtain ⟨sp, hsp⟩ : ∃ q : ByteArray, q = ⟨(pl l').toArray⟩ := ⟨_, rfl⟩
      have F2 := Lib.hid (fun (w1 W : World) (h : Ses w w.heap.size o1.2 w1) (hW : Below w1.heap.size w1 W) (cp : Nat) (hA : RdB W (some ⟨w1.heap.size, 0, none⟩) B) => sFeed_calls h hW hU rr (some ⟨w1.heap.size, 0, none⟩) cp B hA (fun a ha _ => .inr (by cases ha; exact Nat.le_refl _)) (by simp; omega))
      rw [hpl] at F2
      have CB := Lib.hid (fun w1 => conv_bytes (P := Tryd.prog) w1 9 25 5 B Tryd.underlying9 Tryd.underlying25 Tryd.underlying5 (by simp [maxLen]; omega))
      rw [← hs7] at CB
      have PL := Lib.hid (fun W => rPlain_calls l' (by omega) s hs W)
      rw [← hsp] at PL
      have WT2 := Lib.hid (fun (W : World) (h : Ses w w.heap.size Dc.new W) => sWaits_calls h)
      rw [show waitsD Dc.new = false from rfl] at WT2
      have heq := Tryd.eq_key sp 26
      have HSP := Lib.hid hsp
      have hfo : Tryd.prog.follows Departure.mixedOrders = true := by kernel_rfl
      clear h12 h50 hU hs hr hs5 hco hcn hct hwt hcc rr rrl ho1 hW0 hb0 hpl hs6 hB hs7 hsp hBl
      go_enter Tryd.func10, Tryd.ntmps10
      go_wp2_with fail
      refine HCO.out.mono ?_
      rintro e w1 ⟨rfl, rfl⟩
      go_wp2_with fail
      refine HSF.out.mono ?_
      rintro e w2 ⟨⟨bb, rfl⟩, rfl⟩
      cases bb with
      | true =>
        go_wp2_with (refine (AL.out _ (Below.refl _ _)).mono ?_; rintro e w1 ⟨rfl, b1⟩)
        go_ret
        exact ⟨rfl, b1⟩
      | false =>
        go_wp2_with fail
        rw [← HW0.out]
        refine F1.out.mono ?_
        rintro e w1 ⟨v1, rfl, _, S1, _⟩
        go_wp2_with fail
        refine (WT.out w1 S1).mono ?_
        rintro e w1' ⟨rfl, rfl⟩
        obtain ⟨cp, W2, hcb, _, _, hrd2, hb2⟩ := CB.out w1
        go_wp2_with fail
        refine (F2.out w1 W2 S1 hb2 cp hrd2).mono ?_
        rintro e w3 ⟨v3, rfl, hv3, S3, _⟩
        obtain ⟨g, off, c3, e3, _, _⟩ := row_key hv3 (k := 0) (q := ⟨26, pl l'⟩) rfl
        subst e3
        have KC := Lib.hid (fun (W : World) (hb : Below w3.heap.size w3 W) => show W.cell? ⟨g, off, none⟩ = some (.int .i64 26) ∧ W.cell? ⟨g, off + 1, none⟩ = some (.string sp) from by
          obtain ⟨g', off', c', e', x1, x2⟩ := row_key (hv3.below hb (Nat.le_refl _)) (k := 0) (q := ⟨26, pl l'⟩) rfl
          cases e'
          rw [lit_of HSP.out] at x2
          exact ⟨x1, x2⟩)
        have S3' := Lib.hid (fun (W : World) (hb : Below w3.heap.size w3 W) => S3.later hb)
        have hbd : Below w3.heap.size w3 w3.drew := ⟨rfl, rfl, rfl, Nat.le_refl _, fun _ _ => rfl⟩
        have HS3 := Lib.hid S3
        have l1 : ([⟨26, pl l'⟩] : List KeyT).length = 1 := rfl
        clear hv3 S3 S1 hcb hrd2
        go_wp2_with fail
        obtain ⟨kd0, kd1⟩ := KC.out _ hbd
        go_region_held3 (fun w' => Below w3.heap.size w3 w' ∧ w'.cell? ⟨g, off, none⟩ = some (.int .i64 26) ∧ w'.cell? ⟨g, off + 1, none⟩ = some (.string sp)) (first | exact ⟨hbd, kd0, kd1⟩ | exact ⟨hb9, x0, x1⟩ | exact ⟨hb10, y0, y1⟩) (first
          | (go_at_call 12; (with_reducible refine (AL.out w3.drew (S3'.out _ hbd).below).mono ?_); rintro e w9 ⟨rfl, b9⟩; have hb9 : Below w3.heap.size w3 w9 := hbd.trans b9; obtain ⟨x0, x1⟩ := KC.out w9 hb9)
          | (go_at_call 24; (with_reducible refine (PL.out w9).mono ?_); rintro e w10 ⟨rfl, b10⟩; have hb10 : Below w3.heap.size w3 w10 := hb9.trans (b10.mono hb9.size); obtain ⟨y0, y1⟩ := KC.out w10 hb10)
          | (go_at_call 18; (refine (WT2.out w10 (S3'.out _ hb10)).mono ?_); rintro e w11 ⟨rfl, rfl⟩))
        go_wp2
        go_ret
        exact ⟨rfl, (S3'.out _ hb10).below⟩
end Go.Proofs.YticaeflnpgbngaaDoor
