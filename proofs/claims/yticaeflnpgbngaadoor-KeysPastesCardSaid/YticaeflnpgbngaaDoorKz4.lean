import Derived.Test.YticaeflnpgbngaaDoorKz3
namespace Go.Proofs.YticaeflnpgbngaaDoor
set_option linter.unusedVariables false
set_option linter.unusedSimpArgs false
open Go.RowKit Go.Maps
/-! KeysAfter. -/
theorem first12 (d : Dc) (h : d.ph = 0) : firstD d 12 = ((runes d.f).map sgn ++ [kb 25], { d with f := [] }) := rfl
theorem after_law {d : Dc} {b : Bs} (h : RelD d b) (h4 : d.ph ≠ 4) : ∃ pre, (putD d 12).1 = pre ++ [kb 25] ∧ waitsD (putD d 12).2 = false := by
  have hN : ∀ (e : Dc) (k : Nat), ∃ pre, (anewD e k 12).1 = pre ++ [kb 25] ∧ waitsD (anewD e k 12).2 = false := fun e k =>
    ⟨kb k :: (runes (e.to 0).f).map sgn, rfl, rfl⟩
  cases h with
  | gr h g w =>
    have e1 : putD d 12 = firstD { d with ag := 0 } 12 := by unfold putD; rw [h]; rfl
    rw [e1, first12 { d with ag := 0 } h]
    exact ⟨_, rfl, by unfold waitsD; show (decide (d.ph ≠ 0) || decide (0 < ([] : Bs).length)) = false; rw [h]; rfl⟩
  | es h g f =>
    have e1 : putD d 12 = anewD { d with ag := 0 } 27 12 := by unfold putD; rw [h]; rfl
    rw [e1]; exact hN _ _
  | cs h f t p m s n =>
    have e1 : putD d 12 = anewD { d with ag := 0 } 0 12 := by unfold putD; rw [h]; rfl
    rw [e1]; exact hN _ _
  | ss h g f =>
    have e1 : putD d 12 = anewD { d with ag := 0 } 0 12 := by unfold putD; rw [h]; rfl
    rw [e1]; exact hN _ _
  | pa h f p n s t e => exact absurd h h4
theorem flatK_get (l : List KeyT) (k : Nat) (q : KeyT) (h : l[k]? = some q) : (flatK l)[k * 2]? = some (n64 q.k) ∧ (flatK l)[k * 2 + 1]? = some (str q.t) := by
  induction l generalizing k with
  | nil => simp at h
  | cons p l ih =>
    rw [show flatK (p :: l) = n64 p.k :: str p.t :: flatK l from rfl]
    cases k with
    | zero => simp at h; subst h; exact ⟨rfl, rfl⟩
    | succ k =>
      have := ih k (by simpa using h)
      rw [show (k + 1) * 2 = k * 2 + 1 + 1 by omega]
      simpa using this
/-- A row's key, in memory. -/
theorem row_key {w : World} {B : Nat} {v : Value} {l : List KeyT} (h : RowK w B v l) {k : Nat} {q : KeyT} (hk : l[k]? = some q) : ∃ g off c, v = .slice (some ⟨g, off, none⟩) l.length c ∧ w.cell? ⟨g, off + k * 2, none⟩ = some (n64 q.k) ∧ w.cell? ⟨g, off + k * 2 + 1, none⟩ = some (str q.t) := by
  obtain ⟨A, c, rfl, _, _, hr, _⟩ := h.rd
  obtain ⟨h1, h2⟩ := flatK_get l k q hk
  obtain ⟨g, off, rfl, c1⟩ := hr _ _ h1
  obtain ⟨_, _, e, c2⟩ := hr _ _ h2
  cases e
  exact ⟨g, off, c, rfl, c1, by rw [Nat.add_assoc]; exact c2⟩
set_option maxRecDepth 100000 in
set_option maxHeartbeats 3200000 in
theorem KeysAfter_walk (w : World) (hU : U8 w) (A : Option Addr) (c : Nat) (l : Bs) (hr : RdB w A l) : Calls Tryd.prog 8 #[.slice A l.length c] w fun e w' => e = .returned (.bool true) ∧ Below w.heap.size w w' := by
  have AL := Lib.hid (fun (W : World) (h : Below w.heap.size w W) => al04_calls W (hU.later h))
  by_cases h15 : 1500 < l.length
  · have i15 : (1500 : Int) < (l.length : Int) := by omega
    clear h15
    go_enter Tryd.func8, Tryd.ntmps8
    go_wp2_with (refine (AL.out w (Below.refl _ _)).mono ?_; rintro e w1 ⟨rfl, b1⟩)
    go_ret
    exact ⟨rfl, b1⟩
  have i15 : ¬ (1500 : Int) < (l.length : Int) := by omega
  have S0 := Lib.hid (Ses.new w w (Below.refl _ _))
  have hb0 := (Below.refl w.heap.size w).alloc (Nat.le_refl _) (.cells decZ 29)
  obtain ⟨W0, hW0⟩ : ∃ W0, W0 = w.alloc (.cells decZ 29) := ⟨_, rfl⟩
  rw [← hW0] at S0 hb0
  obtain ⟨c1, r1, r1l⟩ := feed_relL l RelD.new
  have F1 := Lib.hid (sFeed_calls S0.out (Below.refl W0.heap.size W0) hU RelD.new A c l (Rd.later hr hb0) (fun a ha hne => .inl (Rd.lt hr ha (by simpa using hne))) (by simp; omega))
  obtain ⟨d1, hd1⟩ : ∃ d1, d1 = (feedD Dc.new l).2 := ⟨_, rfl⟩
  rw [← hd1] at r1
  have HD1 := Lib.hid hd1
  have HP := Lib.hid (fun (W : World) (h : Ses w w.heap.size d1 W) => sPasting_calls h)
  have P1 := Lib.hid (fun (W : World) (h : Ses w w.heap.size d1 W) => sPut_calls h hU r1 (by simp at r1l; omega) 12)
  have HW0 := Lib.hid (show W0 = w.alloc (.cells #[.int .i64 0, .slice none 0 0, .slice none 0 0, .int .i64 0, .string ⟨#[]⟩, .int .i64 0] 29) from hW0)
  by_cases hp4 : d1.ph = 4
  · rw [decide_eq_true hp4] at HP
    clear hW0 hr hb0 h15 r1 r1l hd1 hp4
    go_enter Tryd.func8, Tryd.ntmps8
    go_wp2_with fail
    rw [← HW0.out]
    refine F1.out.mono ?_
    rintro e w1 ⟨v1, rfl, _, S1, _⟩
    rw [← HD1.out] at S1
    go_wp2_with fail
    refine (HP.out w1 S1).mono ?_
    rintro e w1' ⟨rfl, rfl⟩
    go_wp2_with fail
    refine (AL.out w1 S1.below).mono ?_
    rintro e w4 ⟨rfl, b4⟩
    have HB := (S1.later b4).below
    go_wp2
    go_ret
    exact ⟨rfl, HB⟩
  · rw [decide_eq_false hp4] at HP
    obtain ⟨pre, e1, e2⟩ := after_law r1 hp4
    have hpl := putD_len d1 12
    have hfl := (rel_num r1).1
    rw [e1, List.length_append, List.length_singleton] at hpl
    have HE1 := Lib.hid e1
    have HWT := Lib.hid (fun (W : World) (h : Ses w w.heap.size (putD d1 12).2 W) => sWaits_calls h)
    rw [e2] at HWT
    generalize putD d1 12 = o2 at P1 HE1 HWT
    have hpn : pre.length ≤ 5 := by omega
    clear hW0 hr hb0 h15 r1 r1l hd1 hp4 e1 e2 hpl hfl
    go_enter Tryd.func8, Tryd.ntmps8
    go_wp2_with fail
    rw [← HW0.out]
    refine F1.out.mono ?_
    rintro e w1 ⟨v1, rfl, _, S1, _⟩
    rw [← HD1.out] at S1
    go_wp2_with fail
    refine (HP.out w1 S1).mono ?_
    rintro e w1' ⟨rfl, rfl⟩
    go_wp2_with fail
    refine (P1.out w1 S1).mono ?_
    rintro e w2 ⟨v2, rfl, hv2, S2, _⟩
    rw [HE1.out] at hv2
    go_wp2_with fail
    refine (AL.out w2 S2.below).mono ?_
    rintro e w4 ⟨rfl, b4⟩
    have S4 := S2.later b4
    have hv4 := hv2.below b4 (Nat.le_refl _)
    obtain ⟨g, off, cc, rfl, x0, _⟩ := row_key hv4 (k := pre.length) (q := kb 25) (by simp)
    rw [List.length_append, List.length_singleton]
    have x1 : w4.cell? ⟨g, off + pre.length * 2, none⟩ = some (.int .i64 25) := x0
    have HB := Lib.hid S4.below
    have j1 : (1 : Int) ≤ ((pre.length : Int) + 1) := by omega
    have j2 : (pre.length : Int) + 1 - 1 = (pre.length : Int) := by omega
    clear hv2 hv4 x0
    go_wp2_with fail
    refine (HWT.out w4 S4).mono ?_
    rintro e w4' ⟨rfl, rfl⟩
    go_wp2
    go_ret
    exact ⟨rfl, HB.out⟩
end Go.Proofs.YticaeflnpgbngaaDoor
