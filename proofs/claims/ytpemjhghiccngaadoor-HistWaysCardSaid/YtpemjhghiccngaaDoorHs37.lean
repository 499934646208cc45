import Derived.Test.YtpemjhghiccngaaDoorHs36
namespace Go.Proofs.YtpemjhghiccngaaDoor
set_option linter.unusedVariables false
set_option linter.unusedSimpArgs false
open Go.RowKit Go.Shelf
set_option maxRecDepth 100000 in
set_option maxHeartbeats 800000 in
theorem Place_calls (w : World) (A : Option Addr) (c : Nat) (l : List Bs) (hr : Rd w A (l.map str)) (hl : l.length ≤ 1000000) (s : Bs) (sb : ByteArray) (hs : sb = ⟨s.toArray⟩) :
    Calls Tryd.prog 55 #[.slice A l.length c, .string sb] w fun e w' => e = .returned (.int .i64 (idxI l fun x => decide (x = s))) ∧ w = w' := by
  have HR := Lib.hid hr
  have HS := Lib.hid hs
  clear hr hs
  go_enter Tryd.func55, Tryd.ntmps55
  go_wp2
  go_loop [5] (fun u5 => ∃ k : Nat, u5 = n64 k ∧ k ≤ l.length ∧ Hid (∀ y ∈ l.take k, decide (y = s) = false)) (fun u5 => (l.length - intOf u5).toNat)
  case atStart => exact ⟨0, rfl, Nat.zero_le _, Lib.hid (by simp)⟩
  case round =>
    obtain ⟨k, rfl, hk, hno⟩ := hrel
    by_cases hlt : k < l.length
    · obtain ⟨x, hx⟩ : ∃ x, l[k]? = some x := ⟨_, List.getElem?_eq_getElem hlt⟩
      obtain ⟨g, off, rfl, c0⟩ := HR.out k (str x) (by rw [List.getElem?_map, hx]; rfl)
      obtain ⟨sx, hsx⟩ : ∃ q : ByteArray, q = ⟨x.toArray⟩ := ⟨_, rfl⟩
      have hbe := str_beq hsx HS.out
      rw [lit_of hsx] at c0
      have HX := Lib.hid hx
      have b1 : (k : Int) < (l.length : Int) := by omega
      clear hx hsx
      by_cases hpx : x = s
      · rw [decide_eq_true hpx] at hbe
        have hfin : idxI l (fun x => decide (x = s)) = (k : Int) := idxI_at HX.out (decide_eq_true hpx) hno.out
        have HF := Lib.hid hfin
        clear hfin hpx
        go_wp2
        go_ret
        exact ⟨by rw [HF.out]; rfl, rfl⟩
      · rw [decide_eq_false hpx] at hbe
        have hno' : Hid (∀ y ∈ l.take (k + 1), decide (y = s) = false) := Lib.hid (by
          intro y hy
          rw [List.take_add_one, HX.out] at hy
          rcases List.mem_append.1 hy with e | e
          · exact hno.out y e
          · have : y = x := by simpa using e
            rw [this]; exact decide_eq_false hpx)
        clear hpx
        go_wp2
        go_round
        case rel => exact ⟨k + 1, by go_num, by omega, hno'⟩
        case measure => simp [intOf]; omega
    · obtain rfl : k = l.length := by omega
      have hfin : idxI l (fun x => decide (x = s)) = -1 := idxI_none (by have := hno.out; rwa [List.take_length] at this)
      have HF := Lib.hid hfin
      clear hfin
      go_wp2
      go_ret
      exact ⟨by rw [HF.out]; rfl, rfl⟩
theorem idxI_mem {C : List Bs} {cmd : Bs} (h : cmd ∈ C) : idxI C (fun x => decide (x = cmd)) = (C.idxOf cmd : Int) := by
  obtain ⟨a, b, rfl, ha⟩ := mem_cut h
  rw [idxI_cut a b cmd ha, idxOf_cut a b cmd ha]
theorem fitL_cons (p : Bs → Bool) (x : Bs) (l : List Bs) : fitL p (x :: l) = if p x = true then (x, true) else fitL p l := by
  unfold fitL
  rw [List.find?_cons]
  cases p x <;> rfl
set_option maxRecDepth 100000 in
set_option maxHeartbeats 3200000 in
theorem rOlder_calls (w : World) (A : Option Addr) (cc : Nat) (l : List EntT) (hr : Rd w A (flatE l)) (hl : l.length ≤ 100000) (hsm : SmallE l) (cmd : Bs) (sc : ByteArray) (hsc : sc = ⟨cmd.toArray⟩) (is : Bool) (s : Bs) (ss : ByteArray) (hss : ss = ⟨s.toArray⟩) (hs : s.length ≤ 1000000) (m : Bool) :
    Calls Tryd.prog 35 #[.slice A l.length cc, .string sc, .bool is, .string ss, .int .i64 (modeI m)] w fun e w' => e = .returned (.tuple #[str (fitL (fun c => fitsM m c s) (olderL (cmdsE l) cmd is)).1, .bool (fitL (fun c => fitsM m c s) (olderL (cmdsE l) cmd is)).2]) ∧ Below w.heap.size w w' := by
  have HR := Lib.hid hr
  have hcl := cmdsE_len l
  have hsmC := Hg.small hsm
  have q0 := Lib.hid (rCmds_calls w A cc l hr (by omega))
  obtain ⟨C, hC⟩ : ∃ C, C = cmdsE l := ⟨_, rfl⟩
  rw [← hC] at hcl hsmC q0 ⊢
  have q1 := fun (W : World) (A1 : Option Addr) (c1 : Nat) (h : Rd W A1 (C.map str)) => Place_calls W A1 c1 C h (by omega) cmd sc hsc
  have q2 := fun (W : World) (x : Bs) (hx : x ∈ C) (sx : ByteArray) (hsx : sx = ⟨x.toArray⟩) => Fits_calls x s sx ss hsx hss (hsmC x hx) hs m W
  obtain ⟨p, hp⟩ : ∃ p : Bs → Bool, p = fun c => fitsM m c s := ⟨_, rfl⟩
  have q2 : ∀ (W : World) (x : Bs) (hx : x ∈ C) (sx : ByteArray) (hsx : sx = ⟨x.toArray⟩), Calls Tryd.prog 56 #[.string sx, .string ss, .int .i64 (modeI m)] W fun e w' => e = .returned (.bool (p x)) ∧ W = w' := by rw [hp]; exact q2
  rw [← hp]
  obtain ⟨md, hmd⟩ : ∃ md, md = modeI m := ⟨_, rfl⟩
  rw [← hmd] at q2 ⊢
  obtain ⟨R, hR⟩ : ∃ R, R = fitL p (olderL C cmd is) := ⟨_, rfl⟩
  rw [← hR]
  obtain ⟨z, hz⟩ : ∃ z, z = idxI C fun x => decide (x = cmd) := ⟨_, rfl⟩
  rw [← hz] at q1
  have hzr := idxI_le C fun x => decide (x = cmd)
  rw [← hz] at hzr
  have hfrom : olderL C cmd is = C.drop (if is = true ∧ 0 ≤ z then z.toNat + 1 else 0) := by
    unfold olderL
    by_cases hm : cmd ∈ C
    · rw [hz, idxI_mem hm]
      cases is <;> simp [hm]
    · rw [hz, idxI_not hm]
      cases is <;> simp [hm]
  rw [hfrom] at hR
  have HRR := Lib.hid hR
  have Q1 := Lib.hid q1
  have Q2 := Lib.hid q2
  clear hfrom hR q1 q2 hmd hp hz hC hsmC hr hsm hsc hss hs
  have fin : ∀ (from_ : Nat), from_ ≤ C.length → R = fitL p (C.drop from_) → True := fun _ _ _ => trivial
  clear fin
  cases is with
  | false =>
    have HR0 : Hid (R = fitL p (C.drop 0)) := Lib.hid (by rw [HRR.out, if_neg (by simp)])
    go_enter Tryd.func35, Tryd.ntmps35
    go_wp2_with fail
    refine q0.out.mono ?_
    rintro e w1 ⟨A1, c1, rfl, hr1, b1⟩
    have HD := Lib.hid hr1.rdS.1
    have HB := Lib.hid b1
    clear hr1 b1
    go_wp2
    go_loop [14] (fun u14 => ∃ k : Nat, u14 = n64 k ∧ k ≤ C.length ∧ Hid (R = fitL p (C.drop k))) (fun u14 => (C.length - intOf u14).toNat)
    case atStart => exact ⟨0, rfl, by omega, HR0⟩
    case round =>
      obtain ⟨k, rfl, hk, HRK⟩ := hrel
      by_cases hlt : k < C.length
      · obtain ⟨x, hx⟩ : ∃ x, C[k]? = some x := ⟨_, List.getElem?_eq_getElem hlt⟩
        have hdr : C.drop k = x :: C.drop (k + 1) := by
          obtain ⟨h1, h2⟩ := List.getElem?_eq_some_iff.1 hx
          rw [List.drop_eq_getElem_cons h1, h2]
        have hR := HRK.out
        rw [hdr, fitL_cons] at hR
        obtain ⟨g, off, rfl, c0⟩ := HD.out k (str x) (by rw [List.getElem?_map, hx]; rfl)
        obtain ⟨sx, hsx⟩ : ∃ q : ByteArray, q = ⟨x.toArray⟩ := ⟨_, rfl⟩
        have q := Q2.out w1 x (List.mem_of_getElem? hx) sx hsx
        rw [lit_of hsx] at c0
        have hsv : str x = .string sx := lit_of hsx
        have HSV := Lib.hid hsv
        have b1 : (k : Int) < (C.length : Int) := by omega
        cases hpx : p x with
        | true =>
          rw [hpx] at q
          rw [if_pos hpx] at hR
          have Q3 := Lib.hid q
          have HRF := Lib.hid hR
          clear q hR hdr hx hsx hsv hpx
          go_wp2_with ((with_reducible refine Q3.out.mono ?_); rintro e w' ⟨rfl, rfl⟩)
          go_ret2
          exact ⟨by rw [HRF.out, HSV.out]; rfl, HB.out⟩
        | false =>
          rw [hpx] at q
          rw [if_neg (by rw [hpx]; simp)] at hR
          have Q3 := Lib.hid q
          have HRF := Lib.hid hR
          clear q hR hdr hx hsx hsv hpx
          go_wp2_with ((with_reducible refine Q3.out.mono ?_); rintro e w' ⟨rfl, rfl⟩)
          go_round
          case rel => exact ⟨k + 1, by go_num, by omega, HRF⟩
          case measure => simp [intOf]; omega
      · obtain rfl : k = C.length := by omega
        have hR := HRK.out
        rw [List.drop_length, fitL_no (by simp)] at hR
        have HRF := Lib.hid hR
        clear hR
        go_wp2
        go_ret2
        exact ⟨by rw [HRF.out]; rfl, HB.out⟩
  | true =>
    by_cases hz0 : 0 ≤ z
    · obtain ⟨f, rfl⟩ : ∃ f : Nat, z = (f : Int) := ⟨z.toNat, by omega⟩
      have HR0 : Hid (R = fitL p (C.drop (f + 1))) := Lib.hid (by rw [HRR.out, if_pos ⟨rfl, hz0⟩, Int.toNat_natCast])
      have hwf : IntKind.i64.wrap ((f : Int) + 1) = (f : Int) + 1 := IntWalk.i64_in _ (by omega)
      go_enter Tryd.func35, Tryd.ntmps35
      go_wp2_with fail
      refine q0.out.mono ?_
      rintro e w1 ⟨A1, c1, rfl, hr1, b1⟩
      have HD := Lib.hid hr1.rdS.1
      have HB := Lib.hid b1
      clear hr1 b1
      go_wp2_with ((with_reducible refine (Q1.out w1 A1 c1 HD.out).mono ?_); rintro e w' ⟨rfl, rfl⟩)
      go_loop [14] (fun u14 => ∃ k : Nat, u14 = n64 k ∧ k ≤ C.length ∧ Hid (R = fitL p (C.drop k))) (fun u14 => (C.length - intOf u14).toNat)
      case atStart => exact ⟨f + 1, rfl, by omega, HR0⟩
      case round =>
        obtain ⟨k, rfl, hk, HRK⟩ := hrel
        by_cases hlt : k < C.length
        · obtain ⟨x, hx⟩ : ∃ x, C[k]? = some x := ⟨_, List.getElem?_eq_getElem hlt⟩
          have hdr : C.drop k = x :: C.drop (k + 1) := by
            obtain ⟨h1, h2⟩ := List.getElem?_eq_some_iff.1 hx
            rw [List.drop_eq_getElem_cons h1, h2]
          have hR := HRK.out
          rw [hdr, fitL_cons] at hR
          obtain ⟨g, off, rfl, c0⟩ := HD.out k (str x) (by rw [List.getElem?_map, hx]; rfl)
          obtain ⟨sx, hsx⟩ : ∃ q : ByteArray, q = ⟨x.toArray⟩ := ⟨_, rfl⟩
          have q := Q2.out w1 x (List.mem_of_getElem? hx) sx hsx
          rw [lit_of hsx] at c0
          have hsv : str x = .string sx := lit_of hsx
          have HSV := Lib.hid hsv
          have b1 : (k : Int) < (C.length : Int) := by omega
          cases hpx : p x with
          | true =>
            rw [hpx] at q
            rw [if_pos hpx] at hR
            have Q3 := Lib.hid q
            have HRF := Lib.hid hR
            clear q hR hdr hx hsx hsv hpx
            go_wp2_with ((with_reducible refine Q3.out.mono ?_); rintro e w' ⟨rfl, rfl⟩)
            go_ret2
            exact ⟨by rw [HRF.out, HSV.out]; rfl, HB.out⟩
          | false =>
            rw [hpx] at q
            rw [if_neg (by rw [hpx]; simp)] at hR
            have Q3 := Lib.hid q
            have HRF := Lib.hid hR
            clear q hR hdr hx hsx hsv hpx
            go_wp2_with ((with_reducible refine Q3.out.mono ?_); rintro e w' ⟨rfl, rfl⟩)
            go_round
            case rel => exact ⟨k + 1, by go_num, by omega, HRF⟩
            case measure => simp [intOf]; omega
        · obtain rfl : k = C.length := by omega
          have hR := HRK.out
          rw [List.drop_length, fitL_no (by simp)] at hR
          have HRF := Lib.hid hR
          clear hR
          go_wp2
          go_ret2
          exact ⟨by rw [HRF.out]; rfl, HB.out⟩
    · obtain rfl : z = -1 := by omega
      have HR0 : Hid (R = fitL p (C.drop 0)) := Lib.hid (by rw [HRR.out, if_neg (by simp)])
      go_enter Tryd.func35, Tryd.ntmps35
      go_wp2_with fail
      refine q0.out.mono ?_
      rintro e w1 ⟨A1, c1, rfl, hr1, b1⟩
      have HD := Lib.hid hr1.rdS.1
      have HB := Lib.hid b1
      clear hr1 b1
      go_wp2_with ((with_reducible refine (Q1.out w1 A1 c1 HD.out).mono ?_); rintro e w' ⟨rfl, rfl⟩)
      go_loop [14] (fun u14 => ∃ k : Nat, u14 = n64 k ∧ k ≤ C.length ∧ Hid (R = fitL p (C.drop k))) (fun u14 => (C.length - intOf u14).toNat)
      case atStart => exact ⟨0, rfl, by omega, HR0⟩
      case round =>
        obtain ⟨k, rfl, hk, HRK⟩ := hrel
        by_cases hlt : k < C.length
        · obtain ⟨x, hx⟩ : ∃ x, C[k]? = some x := ⟨_, List.getElem?_eq_getElem hlt⟩
          have hdr : C.drop k = x :: C.drop (k + 1) := by
            obtain ⟨h1, h2⟩ := List.getElem?_eq_some_iff.1 hx
            rw [List.drop_eq_getElem_cons h1, h2]
          have hR := HRK.out
          rw [hdr, fitL_cons] at hR
          obtain ⟨g, off, rfl, c0⟩ := HD.out k (str x) (by rw [List.getElem?_map, hx]; rfl)
          obtain ⟨sx, hsx⟩ : ∃ q : ByteArray, q = ⟨x.toArray⟩ := ⟨_, rfl⟩
          have q := Q2.out w1 x (List.mem_of_getElem? hx) sx hsx
          rw [lit_of hsx] at c0
          have hsv : str x = .string sx := lit_of hsx
          have HSV := Lib.hid hsv
          have b1 : (k : Int) < (C.length : Int) := by omega
          cases hpx : p x with
          | true =>
            rw [hpx] at q
            rw [if_pos hpx] at hR
            have Q3 := Lib.hid q
            have HRF := Lib.hid hR
            clear q hR hdr hx hsx hsv hpx
            go_wp2_with ((with_reducible refine Q3.out.mono ?_); rintro e w' ⟨rfl, rfl⟩)
            go_ret2
            exact ⟨by rw [HRF.out, HSV.out]; rfl, HB.out⟩
          | false =>
            rw [hpx] at q
            rw [if_neg (by rw [hpx]; simp)] at hR
            have Q3 := Lib.hid q
            have HRF := Lib.hid hR
            clear q hR hdr hx hsx hsv hpx
            go_wp2_with ((with_reducible refine Q3.out.mono ?_); rintro e w' ⟨rfl, rfl⟩)
            go_round
            case rel => exact ⟨k + 1, by go_num, by omega, HRF⟩
            case measure => simp [intOf]; omega
        · obtain rfl : k = C.length := by omega
          have hR := HRK.out
          rw [List.drop_length, fitL_no (by simp)] at hR
          have HRF := Lib.hid hR
          clear hR
          go_wp2
          go_ret2
          exact ⟨by rw [HRF.out]; rfl, HB.out⟩
set_option maxRecDepth 100000 in
set_option maxHeartbeats 3200000 in
theorem rNewer_calls (w : World) (A : Option Addr) (cc : Nat) (l : List EntT) (hr : Rd w A (flatE l)) (hl : l.length ≤ 100000) (hsm : SmallE l) (cmd : Bs) (sc : ByteArray) (hsc : sc = ⟨cmd.toArray⟩) (s : Bs) (ss : ByteArray) (hss : ss = ⟨s.toArray⟩) (hs : s.length ≤ 1000000) (m : Bool) :
    Calls Tryd.prog 36 #[.slice A l.length cc, .string sc, .string ss, .int .i64 (modeI m)] w fun e w' => e = .returned (.tuple #[str (fitL (fun c => fitsM m c s) (newerL (cmdsE l) cmd)).1, .bool (fitL (fun c => fitsM m c s) (newerL (cmdsE l) cmd)).2]) ∧ Below w.heap.size w w' := by
  have HR := Lib.hid hr
  have hcl := cmdsE_len l
  have hsmC := Hg.small hsm
  have q0 := Lib.hid (rCmds_calls w A cc l hr (by omega))
  obtain ⟨C, hC⟩ : ∃ C, C = cmdsE l := ⟨_, rfl⟩
  rw [← hC] at hcl hsmC q0 ⊢
  have q1 := fun (W : World) (A1 : Option Addr) (c1 : Nat) (h : Rd W A1 (C.map str)) => Place_calls W A1 c1 C h (by omega) cmd sc hsc
  have q2 := fun (W : World) (x : Bs) (hx : x ∈ C) (sx : ByteArray) (hsx : sx = ⟨x.toArray⟩) => Fits_calls x s sx ss hsx hss (hsmC x hx) hs m W
  obtain ⟨p, hp⟩ : ∃ p : Bs → Bool, p = fun c => fitsM m c s := ⟨_, rfl⟩
  have q2 : ∀ (W : World) (x : Bs) (hx : x ∈ C) (sx : ByteArray) (hsx : sx = ⟨x.toArray⟩), Calls Tryd.prog 56 #[.string sx, .string ss, .int .i64 (modeI m)] W fun e w' => e = .returned (.bool (p x)) ∧ W = w' := by rw [hp]; exact q2
  rw [← hp]
  obtain ⟨md, hmd⟩ : ∃ md, md = modeI m := ⟨_, rfl⟩
  rw [← hmd] at q2 ⊢
  obtain ⟨R, hR⟩ : ∃ R, R = fitL p (newerL C cmd) := ⟨_, rfl⟩
  rw [← hR]
  obtain ⟨z, hz⟩ : ∃ z, z = idxI C fun x => decide (x = cmd) := ⟨_, rfl⟩
  rw [← hz] at q1
  have hzr := idxI_le C fun x => decide (x = cmd)
  rw [← hz] at hzr
  have hst : ∃ k : Nat, k ≤ C.length ∧ (z - 1 = (k : Int) - 1 ∨ (k = 0 ∧ z - 1 = -2)) ∧ R = fitL p (C.take k).reverse := by
    rw [hR]
    unfold newerL
    by_cases hm : cmd ∈ C
    · rw [hz, idxI_mem hm, if_pos hm]
      exact ⟨C.idxOf cmd, by have := List.idxOf_lt_length_of_mem hm; omega, .inl rfl, rfl⟩
    · rw [hz, idxI_not hm, if_neg hm]
      exact ⟨0, Nat.zero_le _, .inr ⟨rfl, rfl⟩, by simp⟩
  obtain ⟨k0, hk0, hz0, hR0⟩ := hst
  have HR0 := Lib.hid hR0
  have Q1 := Lib.hid q1
  have Q2 := Lib.hid q2
  have hwz : IntKind.i64.wrap (z - 1) = z - 1 := IntWalk.i64_in _ (by omega)
  clear hR q1 q2 hmd hp hz hC hsmC hr hsm hsc hss hs hR0
  go_enter Tryd.func36, Tryd.ntmps36
  go_wp2_with fail
  refine q0.out.mono ?_
  rintro e w1 ⟨A1, c1, rfl, hr1, b1⟩
  have HD := Lib.hid hr1.rdS.1
  have HB := Lib.hid b1
  clear hr1 b1
  go_wp2_with ((with_reducible refine (Q1.out w1 A1 c1 HD.out).mono ?_); rintro e w' ⟨rfl, rfl⟩)
  go_loop [11] (fun u11 => ∃ (k : Nat) (y : Int), u11 = .int .i64 y ∧ k ≤ C.length ∧ (y = (k : Int) - 1 ∨ (k = 0 ∧ y = -2)) ∧ Hid (R = fitL p (C.take k).reverse)) (fun u11 => (intOf u11 + 2).toNat)
  case atStart => exact ⟨k0, z - 1, rfl, hk0, hz0, HR0⟩
  case round =>
    obtain ⟨k, y, rfl, hk, hy, HRK⟩ := hrel
    cases k with
    | zero =>
      have hR := HRK.out
      rw [List.take_zero, List.reverse_nil, fitL_no (by simp)] at hR
      have HRF := Lib.hid hR
      have b1 : ¬ ((0 : Int) ≤ y) := by omega
      clear hR
      go_wp2
      go_ret2
      exact ⟨by rw [HRF.out]; rfl, HB.out⟩
    | succ k =>
      obtain rfl : y = (k : Int) := by omega
      have hlt : k < C.length := by omega
      obtain ⟨x, hx⟩ : ∃ x, C[k]? = some x := ⟨_, List.getElem?_eq_getElem hlt⟩
      have hR := HRK.out
      rw [List.take_add_one, hx, List.reverse_append, Option.toList_some, List.reverse_singleton, List.singleton_append, fitL_cons] at hR
      obtain ⟨g, off, rfl, c0⟩ := HD.out k (str x) (by rw [List.getElem?_map, hx]; rfl)
      obtain ⟨sx, hsx⟩ : ∃ q : ByteArray, q = ⟨x.toArray⟩ := ⟨_, rfl⟩
      have q := Q2.out w1 x (List.mem_of_getElem? hx) sx hsx
      rw [lit_of hsx] at c0
      have hsv : str x = .string sx := lit_of hsx
      have HSV := Lib.hid hsv
      have b1 : (k : Int) < (C.length : Int) := by omega
      have b0 : (0 : Int) ≤ (k : Int) := by omega
      have hwk : IntKind.i64.wrap ((k : Int) - 1) = (k : Int) - 1 := IntWalk.i64_in _ (by omega)
      clear hy
      cases hpx : p x with
      | true =>
        rw [hpx] at q
        rw [if_pos hpx] at hR
        have Q3 := Lib.hid q
        have HRF := Lib.hid hR
        clear q hR hx hsx hsv hpx
        go_wp2_with ((with_reducible refine Q3.out.mono ?_); rintro e w' ⟨rfl, rfl⟩)
        go_ret2
        exact ⟨by rw [HRF.out, HSV.out]; rfl, HB.out⟩
      | false =>
        rw [hpx] at q
        rw [if_neg (by rw [hpx]; simp)] at hR
        have Q3 := Lib.hid q
        have HRF := Lib.hid hR
        clear q hR hx hsx hsv hpx
        go_wp2_with ((with_reducible refine Q3.out.mono ?_); rintro e w' ⟨rfl, rfl⟩)
        go_round
        case rel => exact ⟨k, _, rfl, by omega, .inl rfl, HRF⟩
        case measure => simp [intOf]; omega
end Go.Proofs.YtpemjhghiccngaaDoor
