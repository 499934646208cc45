import Derived.Test.YticaeflnpgbngaaDoorKz1
import Derived.Test.YticaeflnpgbngaaDoorIn2
import Derived.Test.YticaeflnpgbngaaDoorIn
namespace Go.Proofs.YticaeflnpgbngaaDoor
set_option linter.unusedVariables false
set_option linter.unusedSimpArgs false
open Go.RowKit Go.Maps
/-! Bytes that came in. -/
theorem bytes_of {H : Type} {enc : TypeId × Value → H} {w : World} : (xs : List Value) → (∀ x ∈ xs, FieldIn enc Tryd.prog w 5 x) → ∃ l : Bs, xs = l.map byt
  | [], _ => ⟨[], rfl⟩
  | x :: xs, h => by
      obtain ⟨l, hl⟩ := bytes_of xs fun y hy => h y (List.mem_cons_of_mem _ hy)
      obtain ⟨n, rfl, hw⟩ := (h x (List.mem_cons_self ..)).int Tryd.underlying5
      have := wf_u8 hw
      refine ⟨UInt8.ofNat n.toNat :: l, ?_⟩
      rw [List.map_cons, hl]
      congr 1
      show Value.int .u8 n = Value.int .u8 _
      congr 1
      rw [UInt8.toNat_ofNat', Nat.mod_eq_of_lt (by omega)]
      omega
set_option maxRecDepth 100000 in
theorem in_bs {H : Type} {enc : TypeId × Value → H} {w : World} {r : Reach} {b0 : Nat} {v : Value} {d : DataW H} {p : List MemPlace} (hv : Value.okWide Tryd.prog w r b0 25 v) (h : DataW.Trod enc Tryd.prog w 0 (fun _ => true) true 25 v d p) (hz : ∀ n ∈ d.weights Tryd.prog 25, n ≤ reachBytes) :
    ∃ (A : Option Addr) (c : Nat) (l : Bs), v = .slice A l.length c ∧ l.length ≤ c ∧ c ≤ maxLen ∧ RdB w A l := by
  obtain ⟨A, n, c, xs, rfl, h1, h2, h3, h4, h5, h6⟩ := in_row1 (e := 5) (by_ := 1) Tryd.underlying25 (by kernel_rfl) (by kernel_rfl) hv h hz
  obtain ⟨l, rfl⟩ := bytes_of xs h6
  rw [List.length_map] at h4
  subst h4
  exact ⟨A, c, l, rfl, h1, h2, h5⟩
/-! KeysEnds. -/
theorem u8_below {w W : World} (h : U8 w) (hb : Below w.heap.size w W) : U8 W := h.later hb
set_option maxRecDepth 100000 in
set_option maxHeartbeats 3200000 in
theorem KeysEnds_walk (w : World) (hU : U8 w) (A : Option Addr) (c : Nat) (l : Bs) (hr : RdB w A l) : Calls Tryd.prog 5 #[.slice A l.length c] w fun e w' => e = .returned (.bool true) ∧ Below w.heap.size w w' := by
  have AL := Lib.hid (fun (W : World) (h : Below w.heap.size w W) => al04_calls W (hU.later h))
  by_cases h15 : 1500 < l.length
  · have i15 : (1500 : Int) < (l.length : Int) := by omega
    clear h15
    go_enter Tryd.func5, Tryd.ntmps5
    go_wp2_with (refine (AL.out w (Below.refl _ _)).mono ?_; rintro e w1 ⟨rfl, b1⟩)
    go_ret
    exact ⟨rfl, b1⟩
  have i15 : ¬ (1500 : Int) < (l.length : Int) := by omega
  have S0 := Lib.hid (Ses.new w w (Below.refl _ _))
  have hb0 := (Below.refl w.heap.size w).alloc (Nat.le_refl _) (.cells decZ 29)
  obtain ⟨W0, hW0⟩ : ∃ W0, W0 = w.alloc (.cells decZ 29) := ⟨_, rfl⟩
  rw [← hW0] at S0 hb0
  obtain ⟨c1, r1, r1l⟩ := feed_relL l RelD.new
  have a1 : (feedD Dc.new l).2.ag = 0 := feed_ag l rfl
  obtain ⟨_, r2, a2⟩ := tick_rel r1 (by omega)
  have a2' : (tickD (feedD Dc.new l).2).2.ag ≤ 1 := by
    rw [a2, a1]; unfold tickR
    split
    · simp
    · rw [if_pos rfl]; exact Nat.le_refl _
  obtain ⟨_, r3, a3⟩ := tick_rel r2 a2'
  have a3' : (tickD (tickD (feedD Dc.new l).2).2).2.ag ≤ 1 := by
    rw [a3]; unfold tickR
    split
    · exact a2'
    · split
      · exact Nat.le_refl _
      · split
        · simp
        · split <;> simp
  obtain ⟨e1, e2⟩ := ends_law r1 a1
  have F1 := Lib.hid (sFeed_calls S0.out (Below.refl W0.heap.size W0) hU RelD.new A c l (Rd.later hr hb0) (fun a ha hne => .inl (Rd.lt hr ha (by simpa using hne))) (by simp; omega))
  have T1 := Lib.hid (fun (W : World) (h : Ses w w.heap.size (feedD Dc.new l).2 W) => sTick_calls h r1 (by omega))
  have T2 := Lib.hid (fun (W : World) (h : Ses w w.heap.size (tickD (feedD Dc.new l).2).2 W) => sTick_calls h r2 (by omega))
  have T3 := Lib.hid (fun (W : World) (h : Ses w w.heap.size (tickD (tickD (feedD Dc.new l).2).2).2 W) => sTick_calls h r3 (by omega))
  have HW := Lib.hid (fun (W : World) (h : Ses w w.heap.size (tickD (tickD (feedD Dc.new l).2).2).2 W) => sWaits_calls h)
  have HP := Lib.hid (fun (W : World) (h : Ses w w.heap.size (tickD (tickD (feedD Dc.new l).2).2).2 W) => sPasting_calls h)
  have HE2 := Lib.hid e2
  rw [e1] at HW
  generalize decide ((tickD (tickD (feedD Dc.new l).2).2).2.ph = 4) = B at HW HP
  generalize hx3 : tickD (tickD (tickD (feedD Dc.new l).2).2).2 = o3 at T3 HE2
  generalize hx2 : tickD (tickD (feedD Dc.new l).2).2 = o2 at T2 T3 HW HP
  generalize hx1 : tickD (feedD Dc.new l).2 = o1 at T1 T2
  generalize hx0 : feedD Dc.new l = o0 at F1 T1
  have HW0 := Lib.hid (show W0 = w.alloc (.cells #[.int .i64 0, .slice none 0 0, .slice none 0 0, .int .i64 0, .string ⟨#[]⟩, .int .i64 0] 29) from hW0)
  clear e1 e2 a1 a2 a2' a3 a3' r1 r1l r2 r3 hx3 hx2 hx1 hx0 hW0 hr hb0 h15
  go_enter Tryd.func5, Tryd.ntmps5
  go_wp2_with fail
  rw [← HW0.out]
  refine F1.out.mono ?_
  rintro e w1 ⟨v1, rfl, _, S1, _⟩
  go_wp2_with fail
  refine (T1.out w1 S1).mono ?_
  rintro e w2 ⟨v2, rfl, _, S2, _⟩
  go_wp2_with fail
  refine (T2.out w2 S2).mono ?_
  rintro e w3 ⟨v3, rfl, _, S3, _⟩
  go_wp2_with fail
  refine (AL.out w3 S3.below).mono ?_
  rintro e w4 ⟨rfl, b4⟩
  have S4 := S3.later b4
  go_wp2_with fail
  refine (HW.out w4 S4).mono ?_
  rintro e w4' ⟨rfl, rfl⟩
  go_wp2_with fail
  refine (HP.out w4 S4).mono ?_
  rintro e w4' ⟨rfl, rfl⟩
  go_wp2_with fail
  refine (T3.out w4 S4).mono ?_
  rintro e w5 ⟨v5, rfl, hv5, S5, _⟩
  rw [HE2.out] at hv5
  obtain ⟨A5, c5, rfl, _⟩ := hv5.rd
  have HB := S5.below
  have l0 : ([] : List KeyT).length = 0 := rfl
  go_wp2
  go_ret
  exact ⟨rfl, HB⟩
end Go.Proofs.YticaeflnpgbngaaDoor
