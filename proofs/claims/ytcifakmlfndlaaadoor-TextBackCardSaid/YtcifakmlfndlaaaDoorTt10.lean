import Derived.Test.YtcifakmlfndlaaaDoorTt9
import Derived.Test.YtcifakmlfndlaaaDoorSr3
import Derived.Test.YtcifakmlfndlaaaDoorWr
namespace Go.Proofs.YtcifakmlfndlaaaDoor
set_option linter.unusedVariables false
set_option linter.unusedSimpArgs false
open Go.RowKit Go.Shelf
def gP (r : Nat) : Bs := if 0 ≤ fP (r : Int) then enc (fP (r : Int)).toNat else []
theorem pl_flat (l : Bs) : pl l = (runes l).flatMap gP := by
  unfold pl ps
  rw [List.flatMap_assoc]
  refine flatMap_same _ fun r hr => ?_
  unfold gP
  by_cases h : 0 ≤ fP (r : Int)
  · rw [if_pos h, if_pos h]; simp
  · rw [if_neg h, if_neg h]; rfl
theorem gP_len (r : Nat) : (gP r).length ≤ 4 := by
  unfold gP
  split
  · exact enc_len _
  · simp
theorem gP_fl (rs : List Nat) : (rs.flatMap gP).length ≤ 4 * rs.length := by
  induction rs with
  | nil => simp
  | cons r rs ih => rw [List.flatMap_cons, List.length_append, List.length_cons]; have := gP_len r; omega
theorem gP_white {r : Nat} (h : r = 9 ∨ r = 10 ∨ r = 13) : gP r = enc 32 := by
  have e : fP (r : Int) = 32 := by unfold fP; rw [if_pos (by omega)]
  unfold gP
  rw [e]; rfl
theorem gP_ctl {r : Nat} (h : ¬ (r = 9 ∨ r = 10 ∨ r = 13)) (hc : ctl (r : Int) = true) : gP r = [] := by
  have e : fP (r : Int) = -1 := by unfold fP; rw [if_neg (by omega), if_pos hc]
  unfold gP
  rw [e]; rfl
theorem gP_own {r : Nat} (h : ¬ (r = 9 ∨ r = 10 ∨ r = 13)) (hc : ctl (r : Int) = false) : gP r = enc r := by
  have e : fP (r : Int) = r := by unfold fP; rw [if_neg (by omega), if_neg (by rw [hc]; simp)]
  unfold gP
  rw [e, if_pos (by omega)]; rfl
theorem gP_step {rs : List Nat} {k r : Nat} (h : rs[k]? = some r) : (rs.take (k + 1)).flatMap gP = (rs.take k).flatMap gP ++ gP r := by
  rw [List.take_add_one, h, List.flatMap_append]; simp
theorem val32 : Utf8.valid ((32 : Nat) : Int) = true := (valid_iff _).2 (by omega)
theorem rb32 : rb 32 = enc 32 := rb_enc val32
set_option maxHeartbeats 3200000 in
set_option maxRecDepth 100000 in
/-- ref.Plain. -/
theorem rPlain_calls (l : Bs) (hl : l.length ≤ 1000000000) (s : ByteArray) (hs : s = ⟨l.toArray⟩) (w : World) :
    Calls Tryd.prog 16 #[.string s] w fun e w' => e = .returned (.string ⟨(pl l).toArray⟩) ∧ Below w.heap.size w w' := by
  obtain ⟨cap, W, hcv, hcap, hrd, hb0⟩ := cv8 hs (by omega) w
  have q1 := rRunes_calls (some ⟨w.heap.size, 0, none⟩) cap l W hrd hcap (by omega)
  have Q1 := Lib.hid q1
  have hrl := runes_length l
  have HPL := Lib.hid (pl_flat l)
  have hrv := runes_val l
  have HRV := Lib.hid hrv
  obtain ⟨rs, hrs⟩ : ∃ rs, rs = runes l := ⟨_, rfl⟩
  rw [← hrs] at hrl HPL Q1 HRV
  clear q1 hs hrd hrv hrs hcap
  go_enter Tryd.func16, Tryd.ntmps16
  go_wp2_with fail
  refine Q1.out.mono ?_
  rintro e w1 ⟨v1, rfl, hrow1, hb1⟩
  obtain ⟨A1, c1, rfl, hn1, hm1, hrd1, hA1⟩ := hrow1.rd
  have HR1 := Lib.hid hrd1
  have B1 := hb0.trans (hb1.mono hb0.size)
  clear hrow1 hrd1 Q1 hcv
  go_wp2
  go_loopw [3, 5, 6] (fun u3 u5 u6 wr => ∃ (k : Nat) (acc : Bs), u5 = .int .i64 k ∧ k ≤ rs.length ∧ acc = (rs.take k).flatMap gP ∧ Row wr w1.heap.size 5 1 u3 acc.length (acc.map byt) ∧ Below w1.heap.size w1 wr) (fun _ u5 _ _ => rs.length - (intOf u5).toNat)
  case atStart => exact ⟨0, [], rfl, Nat.zero_le _, rfl, Row.nil _ _ _ _, Below.refl _ _⟩
  case round =>
    obtain ⟨k, acc, rfl, hk, hacc, hrow, hb⟩ := hrel
    have hal : acc.length ≤ 4 * k := by
      rw [hacc]; have := gP_fl (rs.take k); rw [List.length_take] at this; omega
    have HA := Lib.hid hacc
    clear hacc
    by_cases hlt : k < rs.length
    · obtain ⟨r, hr⟩ : ∃ r, rs[k]? = some r := ⟨_, List.getElem?_eq_getElem hlt⟩
      obtain ⟨b, off, rfl, hck⟩ := (HR1.out.later hb) k (n64 r) (by rw [List.getElem?_map, hr]; rfl)
      have hval := HRV.out r (List.mem_of_getElem? hr)
      have HST := Lib.hid (gP_step hr)
      have hkl : (k : Int) < (rs.length : Int) := by omega
      have hr7 : r ≤ 1114111 := by have := (valid_iff _).1 hval; omega
      have HV := Lib.hid hval
      clear hr hval
      by_cases h9 : r = 9
      · subst h9
        have HG := Lib.hid (gP_white (r := 9) (by omega))
        have qc := rControl_calls 32 wr
        rw [ctl32] at qc
        have QC := Lib.hid qc
        have HRB := Lib.hid rb32
        have hel := enc_len 32
        have qb := fun (W : World) => Bytes_calls 32 W
        have QB := Lib.hid qb
        clear qc qb
        go_wp2_with (first
          | (go_at_call 39; refine QC.out.mono ?_; rintro e w2 ⟨rfl, hb2⟩; have hrow2 := hrow.below hb2 (Nat.le_refl _); have B2 := hb.trans (hb2.mono hb.size))
          | (go_at_call 40; refine (QB.out w2).mono ?_; rintro e w3 ⟨v3, rfl, hrow3, hb3⟩; rw [HRB.out] at hrow3; obtain ⟨A3, c3, rfl, _, _, hrd3, _⟩ := hrow3.rd; have hrow' := hrow2.below hb3 (Nat.le_refl _); have B3 := B2.trans (hb3.mono B2.size); have hsz3 := B3.size)
          | (at_builtin; refine wpList_append_row _ rfl _ _ 59 rfl w1.heap.size 5 1 1 _ Tryd.underlying59 Tryd.info_u8 rfl (by decide) u3 _ _ rfl hrow' _ _ _ ((enc 32).map byt) rfl (by simp) hrd3 (by simp [Value.oneCell']) (by omega) (by simp only [maxLen]; omega) (by omega) ?_; intro A4 c4 w4 hrow4 hg4 hb4))
        go_roundw
        case rel => exact ⟨k + 1, acc ++ enc 32, by go_num, by omega, by rw [HST.out, HA.out, HG.out], by simpa using hrow4, B3.grown hg4 hsz3 fun k e => (hrow'.lt _ e).1⟩
        case measure => simp [intOf]; omega
      by_cases h10 : r = 10
      · subst h10
        have HG := Lib.hid (gP_white (r := 10) (by omega))
        have qc := rControl_calls 32 wr
        rw [ctl32] at qc
        have QC := Lib.hid qc
        have HRB := Lib.hid rb32
        have hel := enc_len 32
        have qb := fun (W : World) => Bytes_calls 32 W
        have QB := Lib.hid qb
        clear qc qb
        go_wp2_with (first
          | (go_at_call 39; refine QC.out.mono ?_; rintro e w2 ⟨rfl, hb2⟩; have hrow2 := hrow.below hb2 (Nat.le_refl _); have B2 := hb.trans (hb2.mono hb.size))
          | (go_at_call 40; refine (QB.out w2).mono ?_; rintro e w3 ⟨v3, rfl, hrow3, hb3⟩; rw [HRB.out] at hrow3; obtain ⟨A3, c3, rfl, _, _, hrd3, _⟩ := hrow3.rd; have hrow' := hrow2.below hb3 (Nat.le_refl _); have B3 := B2.trans (hb3.mono B2.size); have hsz3 := B3.size)
          | (at_builtin; refine wpList_append_row _ rfl _ _ 59 rfl w1.heap.size 5 1 1 _ Tryd.underlying59 Tryd.info_u8 rfl (by decide) u3 _ _ rfl hrow' _ _ _ ((enc 32).map byt) rfl (by simp) hrd3 (by simp [Value.oneCell']) (by omega) (by simp only [maxLen]; omega) (by omega) ?_; intro A4 c4 w4 hrow4 hg4 hb4))
        go_roundw
        case rel => exact ⟨k + 1, acc ++ enc 32, by go_num, by omega, by rw [HST.out, HA.out, HG.out], by simpa using hrow4, B3.grown hg4 hsz3 fun k e => (hrow'.lt _ e).1⟩
        case measure => simp [intOf]; omega
      by_cases h13 : r = 13
      · subst h13
        have HG := Lib.hid (gP_white (r := 13) (by omega))
        have qc := rControl_calls 32 wr
        rw [ctl32] at qc
        have QC := Lib.hid qc
        have HRB := Lib.hid rb32
        have hel := enc_len 32
        have qb := fun (W : World) => Bytes_calls 32 W
        have QB := Lib.hid qb
        clear qc qb
        go_wp2_with (first
          | (go_at_call 39; refine QC.out.mono ?_; rintro e w2 ⟨rfl, hb2⟩; have hrow2 := hrow.below hb2 (Nat.le_refl _); have B2 := hb.trans (hb2.mono hb.size))
          | (go_at_call 40; refine (QB.out w2).mono ?_; rintro e w3 ⟨v3, rfl, hrow3, hb3⟩; rw [HRB.out] at hrow3; obtain ⟨A3, c3, rfl, _, _, hrd3, _⟩ := hrow3.rd; have hrow' := hrow2.below hb3 (Nat.le_refl _); have B3 := B2.trans (hb3.mono B2.size); have hsz3 := B3.size)
          | (at_builtin; refine wpList_append_row _ rfl _ _ 59 rfl w1.heap.size 5 1 1 _ Tryd.underlying59 Tryd.info_u8 rfl (by decide) u3 _ _ rfl hrow' _ _ _ ((enc 32).map byt) rfl (by simp) hrd3 (by simp [Value.oneCell']) (by omega) (by simp only [maxLen]; omega) (by omega) ?_; intro A4 c4 w4 hrow4 hg4 hb4))
        go_roundw
        case rel => exact ⟨k + 1, acc ++ enc 32, by go_num, by omega, by rw [HST.out, HA.out, HG.out], by simpa using hrow4, B3.grown hg4 hsz3 fun k e => (hrow'.lt _ e).1⟩
        case measure => simp [intOf]; omega
      have d9 : ((r : Int) == 9) = false := by simp; omega
      have d10 : ((r : Int) == 10) = false := by simp; omega
      have d13 : ((r : Int) == 13) = false := by simp; omega
      have e9 : (r == 9) = false := by simpa using h9
      have e10 : (r == 10) = false := by simpa using h10
      have e13 : (r == 13) = false := by simpa using h13
      have hn : ¬ (r = 9 ∨ r = 10 ∨ r = 13) := by omega
      have qc := rControl_calls (r : Int) wr
      cases hc : ctl (r : Int) with
      | true =>
        have HG := Lib.hid (gP_ctl hn hc)
        rw [hc] at qc
        have QC := Lib.hid qc
        clear qc hc hn h9 h10 h13
        go_wp2_with (go_at_call 39; refine QC.out.mono ?_; rintro e w2 ⟨rfl, hb2⟩; have hrow2 := hrow.below hb2 (Nat.le_refl _); have B2 := hb.trans (hb2.mono hb.size))
        go_roundw
        case rel => exact ⟨k + 1, acc, by go_num, by omega, by rw [HST.out, HA.out, HG.out, List.append_nil], hrow2, B2⟩
        case measure => simp [intOf]; omega
      | false =>
        have HG := Lib.hid (gP_own hn hc)
        rw [hc] at qc
        have QC := Lib.hid qc
        have HRB := Lib.hid (rb_enc HV.out)
        have hel := enc_len r
        have qb := fun (W : World) => Bytes_calls (r : Int) W
        have QB := Lib.hid qb
        clear qc hc qb hn h9 h10 h13
        go_wp2_with (first
          | (go_at_call 39; refine QC.out.mono ?_; rintro e w2 ⟨rfl, hb2⟩; have hrow2 := hrow.below hb2 (Nat.le_refl _); have B2 := hb.trans (hb2.mono hb.size))
          | (go_at_call 40; refine (QB.out w2).mono ?_; rintro e w3 ⟨v3, rfl, hrow3, hb3⟩; rw [HRB.out] at hrow3; obtain ⟨A3, c3, rfl, _, _, hrd3, _⟩ := hrow3.rd; have hrow' := hrow2.below hb3 (Nat.le_refl _); have B3 := B2.trans (hb3.mono B2.size); have hsz3 := B3.size)
          | (at_builtin; refine wpList_append_row _ rfl _ _ 59 rfl w1.heap.size 5 1 1 _ Tryd.underlying59 Tryd.info_u8 rfl (by decide) u3 _ _ rfl hrow' _ _ _ ((enc r).map byt) rfl (by simp) hrd3 (by simp [Value.oneCell']) (by omega) (by simp only [maxLen]; omega) (by omega) ?_; intro A4 c4 w4 hrow4 hg4 hb4))
        go_roundw
        case rel => exact ⟨k + 1, acc ++ enc r, by go_num, by omega, by rw [HST.out, HA.out, HG.out], by simpa using hrow4, B3.grown hg4 hsz3 fun k e => (hrow'.lt _ e).1⟩
        case measure => simp [intOf]; omega
    · obtain rfl : k = rs.length := by omega
      have ha := HA.out
      rw [List.take_length, ← HPL.out] at ha
      obtain ⟨A5, c5, rfl, hn5, hm5, hrd5, _⟩ := hrow.rd
      have hstr := run_str (P := Tryd.prog) wr 59 5 9 Tryd.underlying59 Tryd.underlying5 Tryd.underlying9 A5 acc acc.length c5 rfl hrd5
      obtain ⟨bo, hbo⟩ : ∃ b : ByteArray, b = ⟨acc.toArray⟩ := ⟨_, rfl⟩
      rw [← hbo] at hstr
      have HBO := Lib.hid hbo
      have HAC := Lib.hid ha
      clear ha hbo
      go_wp2
      go_ret
      exact ⟨by rw [← HAC.out, ← HBO.out]; rfl, B1.trans (hb.mono B1.size)⟩
set_option maxHeartbeats 800000 in
/-- ref.Back. -/
theorem rBack_calls (l : Bs) (hl : l.length ≤ 1000000000) (s : ByteArray) (hs : s = ⟨l.toArray⟩) (a : Int) (w : World) :
    Calls Tryd.prog 31 #[.string s, .int .i64 a] w fun e w' => e = .returned (n64 (back l a)) ∧ Below w.heap.size w w' := by
  have hq := rBounds_calls l (by omega) s hs w
  have HQ := Lib.hid hq
  have hcl := cuts_len l
  have hn := bnds_len 0 (cuts l)
  have hat : ∀ j, j ≤ (cuts l).length → (bnds 0 (cuts l))[j]? = some (off (cuts l) j) := fun j hj => by rw [bnds_off _ _ _ hj, Nat.zero_add]
  have HAT := Lib.hid hat
  obtain ⟨N, hN⟩ : ∃ n, n = (cuts l).length := ⟨_, rfl⟩
  obtain ⟨bs, hbs⟩ : ∃ bs, bs = bnds 0 (cuts l) := ⟨_, rfl⟩
  rw [← hbs] at hn HQ HAT
  rw [← hN] at hn hcl HAT
  have HN := Lib.hid hN
  have hmx : ∀ j, off (cuts l) j ≤ l.length := fun j => off_le l j
  clear hq hs hbs hat hN
  go_enter Tryd.func31, Tryd.ntmps31
  go_wp2_with fail
  refine HQ.out.mono ?_
  rintro e w1 ⟨v, rfl, hrow, hb1⟩
  rw [hn] at hrow
  obtain ⟨A, c, rfl, hnc, _, hrd, hA⟩ := hrow.rd
  have HR := Lib.hid hrd
  clear hrow hrd hn
  go_wp2
  go_loopw [6] (fun u6 wr => ∃ j : Nat, u6 = n64 j ∧ j ≤ N ∧ (∀ i, j < i → i ≤ N → a < (off (cuts l) i : Int)) ∧ wr = w1) (fun u6 _ => (intOf u6).toNat)
  case atStart => exact ⟨N, by go_num, Nat.le_refl _, fun i h1 h2 => by omega, rfl⟩
  case round =>
    obtain ⟨j, rfl, hj, hall, rfl⟩ := hrel
    have HALL := Lib.hid hall
    obtain ⟨g, off0, hA0, c0⟩ := HR.out j (n64 (off (cuts l) j)) (by rw [List.getElem?_map, HAT.out j hj]; rfl)
    subst hA0
    have hjl : (j : Int) < (N : Int) + 1 := by omega
    have hoj := hmx j
    obtain ⟨x, hx⟩ : ∃ x, x = off (cuts l) j := ⟨_, rfl⟩
    rw [← hx] at c0 hoj
    have HX := Lib.hid hx
    clear hall hx
    by_cases h0 : j = 0
    · subst h0
      rw [Nat.add_zero] at c0
      have hbk := back_eq (s := l) (a := a) (k := 0) ⟨Nat.zero_le _, .inr rfl, fun i h1 h2 => HALL.out i h1 (by rw [HN.out]; exact h2)⟩
      have HBK := Lib.hid hbk
      clear hbk hmx
      go_wp2
      go_ret
      exact ⟨by rw [HBK.out, ← HX.out]; rfl, hb1⟩
    · have hj0 : decide ((0 : Int) < (j : Int)) = true := by simp; omega
      have hj00 : decide (0 < j) = true := by simp; omega
      have hj1 : (0 : Int) < (j : Int) := by omega
      by_cases hxa : a < (x : Int)
      · have hd : decide (a < (x : Int)) = true := by simpa using hxa
        clear hmx
        go_wp2
        go_roundw
        case rel =>
          refine ⟨j - 1, by go_num, by omega, fun i h1 h2 => ?_, trivial⟩
          by_cases e : i = j
          · rw [e, ← HX.out]; exact hxa
          · exact HALL.out i (by omega) h2
        case measure => simp [intOf]; omega
      · have hd : decide (a < (x : Int)) = false := by simpa using hxa
        have hbk := back_eq (s := l) (a := a) (k := j) ⟨by rw [← HN.out]; exact hj, .inl (by rw [← HX.out]; omega), fun i h1 h2 => HALL.out i h1 (by rw [HN.out]; exact h2)⟩
        have HBK := Lib.hid hbk
        clear hbk hmx
        go_wp2
        go_ret
        exact ⟨by rw [HBK.out, ← HX.out]; rfl, hb1⟩
set_option maxHeartbeats 800000 in
/-- ref.On. -/
theorem rOn_calls (l : Bs) (hl : l.length ≤ 1000000000) (s : ByteArray) (hs : s = ⟨l.toArray⟩) (a : Int) (w : World) :
    Calls Tryd.prog 42 #[.string s, .int .i64 a] w fun e w' => e = .returned (n64 (on l a)) ∧ Below w.heap.size w w' := by
  have hq := rBounds_calls l (by omega) s hs w
  have HQ := Lib.hid hq
  have hcl := cuts_len l
  have hn := bnds_len 0 (cuts l)
  have hat : ∀ j, j ≤ (cuts l).length → (bnds 0 (cuts l))[j]? = some (off (cuts l) j) := fun j hj => by rw [bnds_off _ _ _ hj, Nat.zero_add]
  have HAT := Lib.hid hat
  obtain ⟨N, hN⟩ : ∃ n, n = (cuts l).length := ⟨_, rfl⟩
  obtain ⟨bs, hbs⟩ : ∃ bs, bs = bnds 0 (cuts l) := ⟨_, rfl⟩
  rw [← hbs] at hn HQ HAT
  rw [← hN] at hn hcl HAT
  have HN := Lib.hid hN
  have hmx : ∀ j, off (cuts l) j ≤ l.length := fun j => off_le l j
  clear hq hs hbs hat hN
  go_enter Tryd.func42, Tryd.ntmps42
  go_wp2_with fail
  refine HQ.out.mono ?_
  rintro e w1 ⟨v, rfl, hrow, hb1⟩
  rw [hn] at hrow
  obtain ⟨A, c, rfl, hnc, _, hrd, hA⟩ := hrow.rd
  have HR := Lib.hid hrd
  clear hrow hrd hn
  go_wp2
  go_loopw [6] (fun u6 wr => ∃ j : Nat, u6 = n64 j ∧ j ≤ N ∧ (∀ i, i < j → (off (cuts l) i : Int) < a) ∧ wr = w1) (fun u6 _ => (N - intOf u6).toNat)
  case atStart => exact ⟨0, rfl, Nat.zero_le _, fun i h1 => by omega, rfl⟩
  case round =>
    obtain ⟨j, rfl, hj, hall, rfl⟩ := hrel
    have HALL := Lib.hid hall
    obtain ⟨g, off0, hA0, c0⟩ := HR.out j (n64 (off (cuts l) j)) (by rw [List.getElem?_map, HAT.out j hj]; rfl)
    subst hA0
    have hjl : (j : Int) < (N : Int) + 1 := by omega
    have hoj := hmx j
    obtain ⟨x, hx⟩ : ∃ x, x = off (cuts l) j := ⟨_, rfl⟩
    rw [← hx] at c0 hoj
    have HX := Lib.hid hx
    clear hall hx
    by_cases h0 : j = N
    · subst h0
      have hbk := on_eq (s := l) (a := a) (k := j) ⟨by rw [← HN.out]; exact Nat.le_refl _, .inr HN.out, fun i h1 => HALL.out i h1⟩
      have HBK := Lib.hid hbk
      have hd : decide ((j : Int) < (j : Int) + 1 - 1) = false := by simp
      clear hbk hmx
      go_wp2
      go_ret
      exact ⟨by rw [HBK.out, ← HX.out]; rfl, hb1⟩
    · have hj1 : (j : Int) < (N : Int) := by omega
      have hj0 : decide ((j : Int) < (N : Int)) = true := by simp; omega
      have hj00 : decide (j < N) = true := by simp; omega
      by_cases hxa : (x : Int) < a
      · have hd : decide ((x : Int) < a) = true := by simpa using hxa
        clear hmx
        go_wp2
        go_roundw
        case rel =>
          refine ⟨j + 1, by go_num, by omega, fun i h1 => ?_, trivial⟩
          by_cases e : i = j
          · rw [e, ← HX.out]; exact hxa
          · exact HALL.out i (by omega)
        case measure => simp [intOf]; omega
      · have hd : decide ((x : Int) < a) = false := by simpa using hxa
        have hbk := on_eq (s := l) (a := a) (k := j) ⟨by rw [← HN.out]; exact hj, .inl (by rw [← HX.out]; omega), fun i h1 => HALL.out i h1⟩
        have HBK := Lib.hid hbk
        clear hbk hmx
        go_wp2
        go_ret
        exact ⟨by rw [HBK.out, ← HX.out]; rfl, hb1⟩
end Go.Proofs.YtcifakmlfndlaaaDoor
namespace Go.Proofs.YtcifakmlfndlaaaDoor
set_option linter.unusedVariables false
set_option linter.unusedSimpArgs false
open Go.RowKit Go.Shelf
/-! The document's Make, Insert: the texts of the program's, other numbers. -/
theorem rPlU (l : Bs) (hl : l.length ≤ 1000000000) (s : ByteArray) (hs : s = ⟨l.toArray⟩) (w : World) (hU : U8 w) :
    Calls Tryd.prog 16 #[.string s] w fun e w' => e = .returned (.string ⟨(pl l).toArray⟩) ∧ Below w.heap.size w w' := rPlain_calls l hl s hs w
set_option maxHeartbeats 800000 in
/-- Make. -/
theorem rMake_calls (l : Bs) (hl : l.length ≤ 100000000) (s : ByteArray) (hs : s = ⟨l.toArray⟩) (a : Int) (w : World) (hU : U8 w) :
    Calls Tryd.prog 13 #[.string s, .int .i64 a] w fun e w' => e = .returned (bufV (mkS l) (back (mkS l) a)) ∧ Below w.heap.size w w' := by
  have hpl := pl_len l
  have q1 := fun (W : World) (h : U8 W) => rPlU l (by omega) s hs W h
  have Q1 := Lib.hid q1
  have HU := Lib.hid hU
  obtain ⟨p, hp⟩ : ∃ p, p = pl l := ⟨_, rfl⟩
  obtain ⟨bp, hbp⟩ : ∃ s : ByteArray, s = ⟨p.toArray⟩ := ⟨_, rfl⟩
  have hsz : bp.size = p.length := by rw [hbp, str_of]
  rw [← hp] at hpl Q1
  have hmk : mkS l = if 600 < p.length then p.take (back p 600) else p := by rw [hp]; rfl
  have HMK := Lib.hid hmk
  have HBP := Lib.hid hbp
  clear q1 hU hs hp hmk hbp
  by_cases h6 : 600 < bp.size
  · have hd : decide ((600 : Int) < (bp.size : Int)) = true := by simp; omega
    have q2 := fun (W : World) => rBack_calls p (by omega) bp HBP.out 600 W
    have Q2 := Lib.hid q2
    obtain ⟨k, hk⟩ : ∃ k, k = back p 600 := ⟨_, rfl⟩
    have hkl := back_le p 600
    rw [← hk] at Q2 hkl
    have hmk2 : mkS l = p.take k := by rw [HMK.out, if_pos (by omega), hk]
    obtain ⟨bq, hbq⟩ : ∃ s : ByteArray, s = bp.extract 0 k := ⟨_, rfl⟩
    have hbq2 : bq = ⟨(mkS l).toArray⟩ := by rw [hbq, HBP.out, extract_eq, hmk2]; simp
    have hml := mkS_len l
    have q3 := fun (W : World) => rBack_calls (mkS l) (by omega) bq hbq2 a W
    have Q3 := Lib.hid q3
    have HB := Lib.hid hbq
    have HB2 := Lib.hid hbq2
    have hk0 : (0 : Int) ≤ (k : Int) := by omega
    have hk1 : (k : Int) ≤ (bp.size : Int) := by omega
    clear q2 hk hmk2 hbq hbq2 q3
    go_enter Tryd.func13, Tryd.ntmps13
    go_wp2_with fail
    refine (Q1.out _ (HU.out.later ((Below.refl _ w).alloc (Nat.le_refl _) _))).mono ?_
    rintro e w1 ⟨rfl, hb1⟩
    rw [← HBP.out]
    have hs1 := hb1.size
    rw [World.size_alloc] at hs1
    go_wp2_with fail
    refine (Q2.out _).mono ?_
    rintro e w2 ⟨rfl, hb2⟩
    have hs2 := hb2.size
    go_wp2_with fail
    rw [← HB.out]
    refine (Q3.out _).mono ?_
    rintro e w3 ⟨rfl, hb3⟩
    have hs3 := hb3.size
    have hc : w3.heap[w.heap.size]? = some (.cells #[.string ⟨#[]⟩, .int .i64 0] 27 (0, 0)) := by
      rw [hb3.block _ (by omega), hb2.block _ (by omega), hb1.block _ (by simp)]
      exact heap_alloc_new w _
    have B3 : Below w.heap.size w w3 := (((Below.refl _ w).alloc (Nat.le_refl _) _).trans (hb1.mono (by simp))).trans ((hb2.mono (by omega)).trans (hb3.mono (by omega)))
    have d0 := frozen_of_row w3 w.heap.size 0 _ _ hc
    have d1 := frozen_of_row w3 w.heap.size 1 _ _ hc
    have c0 : w3.cell? ⟨w.heap.size, 0, none⟩ = some (.string ⟨#[]⟩) := by rw [cell_of_row w3 _ _ _ _ (0, 0) hc]; rfl
    have c1 : w3.cell? ⟨w.heap.size, 1, none⟩ = some (.int .i64 0) := by rw [cell_of_row w3 _ _ _ _ (0, 0) hc]; rfl
    have HC := Lib.hid hc
    clear hc
    go_wp2
    obtain ⟨W4, e4, _, r0, r1, b4⟩ := buf_set HC.out (.string bq) (.int .i64 (back (mkS l) a : Int))
    rw [e4]
    exact bodyPost_ret (v := .agg #[.string bq, .int .i64 (back (mkS l) a : Int)]) (by simp [results, Tryd.results13, go_sem, r0, r1]) rfl ⟨by rw [HB2.out], b4 _ _ (Nat.le_refl _) B3⟩
  · have hd : decide ((600 : Int) < (bp.size : Int)) = false := by simp; omega
    have hmk2 : mkS l = p := by rw [HMK.out, if_neg (by omega)]
    have hbq2 : bp = ⟨(mkS l).toArray⟩ := by rw [hmk2]; exact HBP.out
    have hml := mkS_len l
    have q3 := fun (W : World) => rBack_calls (mkS l) (by omega) bp hbq2 a W
    have Q3 := Lib.hid q3
    have HB2 := Lib.hid hbq2
    clear hmk2 hbq2 q3
    go_enter Tryd.func13, Tryd.ntmps13
    go_wp2_with fail
    refine (Q1.out _ (HU.out.later ((Below.refl _ w).alloc (Nat.le_refl _) _))).mono ?_
    rintro e w1 ⟨rfl, hb1⟩
    rw [← HBP.out]
    have hs1 := hb1.size
    rw [World.size_alloc] at hs1
    go_wp2_with fail
    refine (Q3.out _).mono ?_
    rintro e w3 ⟨rfl, hb3⟩
    have hs3 := hb3.size
    have hc : w3.heap[w.heap.size]? = some (.cells #[.string ⟨#[]⟩, .int .i64 0] 27 (0, 0)) := by
      rw [hb3.block _ (by omega), hb1.block _ (by simp)]
      exact heap_alloc_new w _
    have B3 : Below w.heap.size w w3 := (((Below.refl _ w).alloc (Nat.le_refl _) _).trans (hb1.mono (by simp))).trans (hb3.mono (by omega))
    have d0 := frozen_of_row w3 w.heap.size 0 _ _ hc
    have d1 := frozen_of_row w3 w.heap.size 1 _ _ hc
    have c0 : w3.cell? ⟨w.heap.size, 0, none⟩ = some (.string ⟨#[]⟩) := by rw [cell_of_row w3 _ _ _ _ (0, 0) hc]; rfl
    have c1 : w3.cell? ⟨w.heap.size, 1, none⟩ = some (.int .i64 0) := by rw [cell_of_row w3 _ _ _ _ (0, 0) hc]; rfl
    have HC := Lib.hid hc
    clear hc
    go_wp2
    obtain ⟨W4, e4, _, r0, r1, b4⟩ := buf_set HC.out (.string bp) (.int .i64 (back (mkS l) a : Int))
    rw [e4]
    exact bodyPost_ret (v := .agg #[.string bp, .int .i64 (back (mkS l) a : Int)]) (by simp [results, Tryd.results13, go_sem, r0, r1]) rfl ⟨by rw [HB2.out], b4 _ _ (Nat.le_refl _) B3⟩
def rinsV (l t : Bs) (a : Int) : Value := if insOk l t = true then .tuple #[bufV (insT l t a) (insA l t a), .bool true] else .tuple #[bufV (mkS l) (back (mkS l) a), .bool false]
theorem rinsV_yes {l t : Bs} {a : Int} (h : insOk l t = true) : rinsV l t a = .tuple #[bufV (insT l t a) (insA l t a), .bool true] := by unfold rinsV; rw [if_pos h]
theorem rinsV_no {l t : Bs} {a : Int} (h : insOk l t = false) : rinsV l t a = .tuple #[bufV (mkS l) (back (mkS l) a), .bool false] := by unfold rinsV; rw [if_neg (by rw [h]; simp)]
set_option maxHeartbeats 3200000 in
set_option maxRecDepth 100000 in
/-- Insert. -/
theorem rInsert_calls (l : Bs) (hl : l.length ≤ 1000000) (s : ByteArray) (hs : s = ⟨l.toArray⟩) (a : Int) (m : Bs) (hm : m.length ≤ 1000000) (t : ByteArray) (ht : t = ⟨m.toArray⟩) (w : World) (hU : U8 w) :
    Calls Tryd.prog 19 #[.agg #[.string s, .int .i64 a], .string t] w fun e w' =>
      e = .returned (rinsV l m a) ∧ Below w.heap.size w w' := by
  obtain ⟨W0, hW0⟩ : ∃ W0, W0 = (w.alloc (.cells #[.string s, .int .i64 a] 27)).alloc (.cells #[.string ⟨#[]⟩, .int .i64 0] 27) := ⟨_, rfl⟩
  have hB0 : Below w.heap.size w W0 := by rw [hW0]; exact ((Below.refl _ w).alloc (Nat.le_refl _) _).alloc (by simp) _
  have hb0 : W0.heap[w.heap.size]? = some (.cells #[.string s, .int .i64 a] 27 (0, 0)) := by rw [hW0]; exact (Below.heap_alloc _ _ _ (by simp)).trans (heap_alloc_new w _)
  have hb1 : W0.heap[w.heap.size + 1]? = some (.cells #[.string ⟨#[]⟩, .int .i64 0] 27 (0, 0)) := by
    rw [hW0]
    have := heap_alloc_new (w.alloc (.cells #[.string s, .int .i64 a] 27)) (.cells #[.string ⟨#[]⟩, .int .i64 0] 27)
    rwa [World.size_alloc] at this
  have hz0 : W0.heap.size = w.heap.size + 1 + 1 := by rw [hW0]; simp
  obtain ⟨c0, c1, _, _⟩ := buf_cells hb0
  obtain ⟨bq, hbq⟩ : ∃ s : ByteArray, s = ⟨(mkS l).toArray⟩ := ⟨_, rfl⟩
  obtain ⟨bt, hbt⟩ : ∃ s : ByteArray, s = ⟨(pl m).toArray⟩ := ⟨_, rfl⟩
  obtain ⟨k, hk⟩ : ∃ k, k = back (mkS l) a := ⟨_, rfl⟩
  have hml := mkS_len l
  have hkl := back_le (mkS l) a
  rw [← hk] at hkl
  have hpl := pl_len m
  have zq : bq.size = (mkS l).length := by rw [hbq, str_of]
  have zt : bt.size = (pl m).length := by rw [hbt, str_of]
  have q1 := rMake_calls l (by omega) s hs a W0 (hU.later hB0)
  rw [← hk, show bufV (mkS l) k = .agg #[.string bq, .int .i64 (k : Int)] by rw [hbq]] at q1
  have q2 := fun (W : World) (h : U8 W) => rPlU m (by omega) t ht W h
  rw [← hbt] at q2
  have Q1 := Lib.hid q1
  have Q2 := Lib.hid q2
  have HB := Lib.hid hb0
  have HB1 := Lib.hid hb1
  have HW := Lib.hid hW0
  have HB0 := Lib.hid hB0
  have HU := Lib.hid hU
  have HQ := Lib.hid hbq
  have HT := Lib.hid hbt
  have HK := Lib.hid hk
  have hq6 : bq.size ≤ 600 := by omega
  have ht6 : bt.size ≤ 4000000 := by omega
  have hk6 : k ≤ 600 := by omega
  have ZQ := Lib.hid zq
  have ZT := Lib.hid zt
  have hkq : (k : Int) ≤ (bq.size : Int) := by omega
  have hk0 : (0 : Int) ≤ (k : Int) := by omega
  clear hs ht hU hbq hbt hk q1 q2 hb0 hb1 hW0 hB0 hml hkl hpl zq zt hl hm
  go_enter Tryd.func19, Tryd.ntmps19
  go_wp2_with fail
  rw [← HW.out]
  refine Q1.out.mono ?_
  rintro e w1 ⟨rfl, hb1⟩
  have h1 := (hb1.block w.heap.size (by omega)).trans HB.out
  have h1' := (hb1.block (w.heap.size + 1) (by omega)).trans HB1.out
  obtain ⟨d0, d1, f0, f1⟩ := buf_cells h1
  have H1 := Lib.hid h1
  have H1' := Lib.hid h1'
  have B1 := HB0.out.trans (hb1.mono (by omega))
  clear h1 h1' c0 c1
  go_wp2_with fail
  obtain ⟨w2, e2, h2, d0, d1, b2⟩ := buf_set H1.out (.string bq) (.int .i64 (k : Int))
  rw [e2]
  have B2 : Below w.heap.size w w2 := b2 _ _ (Nat.le_refl _) B1
  have h2' : w2.heap[w.heap.size + 1]? = some (.cells #[.string ⟨#[]⟩, .int .i64 0] 27 (0, 0)) := by
    rw [← e2, Below.heap_setCell _ _ _ _ (by dsimp only; omega), Below.heap_setCell _ _ _ _ (by dsimp only; omega)]
    exact H1'.out
  have H2 := Lib.hid h2
  have H2' := Lib.hid h2'
  have hz2 : w.heap.size + 1 < w2.heap.size := lt_of_heap h2'
  clear e2 h2 h2' b2
  refine (Q2.out w2 (HU.out.later B2)).mono ?_
  rintro e w3 ⟨rfl, hb3⟩
  have h3 := (hb3.block w.heap.size (by omega)).trans H2.out
  have h3' := (hb3.block (w.heap.size + 1) (by omega)).trans H2'.out
  obtain ⟨c0, c1, _, _⟩ := buf_cells h3
  obtain ⟨r0, r1, g0, g1⟩ := buf_cells h3'
  have B3 := B2.trans (hb3.mono B2.size)
  have H3' := Lib.hid h3'
  have hz3 := hb3.size
  clear h3 h3' d0 d1
  by_cases hbig : 600 < bq.size + bt.size
  · have hd : decide ((600 : Int) < (bq.size : Int) + (bt.size : Int)) = true := by simp; omega
    have hok : insOk l m = false := by unfold insOk; have := ZQ.out; have := ZT.out; simp; omega
    have HOK := Lib.hid hok
    clear hok
    go_wp2
    obtain ⟨W4, e4, _, s0, s1, b4⟩ := buf_set H3'.out (.string bq) (.int .i64 (k : Int))
    rw [e4]
    exact bodyPost_ret (v := .tuple #[.agg #[.string bq, .int .i64 (k : Int)], .bool false]) (by simp [results, Tryd.results19, go_sem, s0, s1]) rfl ⟨by rw [rinsV_no HOK.out, HQ.out, HK.out], b4 _ _ (by omega) B3⟩
  · have hd : decide ((600 : Int) < (bq.size : Int) + (bt.size : Int)) = false := by simp; omega
    have hok : insOk l m = true := by unfold insOk; have := ZQ.out; have := ZT.out; simp; omega
    have HOK := Lib.hid hok
    obtain ⟨x1, hx1⟩ : ∃ x : ByteArray, x = bq.extract 0 k := ⟨_, rfl⟩
    obtain ⟨x2, hx2⟩ : ∃ x : ByteArray, x = bq.extract k bq.size := ⟨_, rfl⟩
    have y1 : x1 = ⟨((mkS l).take k).toArray⟩ := by rw [hx1, HQ.out, extract_eq]; simp
    have y2 : x2 = ⟨((mkS l).drop k).toArray⟩ := by rw [hx2, ZQ.out, HQ.out, extract_eq, List.take_length]
    obtain ⟨x3, hx3⟩ : ∃ x : ByteArray, x = ⟨((mkS l).take k ++ pl m).toArray⟩ := ⟨_, rfl⟩
    obtain ⟨x4, hx4⟩ : ∃ x : ByteArray, x = ⟨(insT l m a).toArray⟩ := ⟨_, rfl⟩
    have l1 : (mkS l).length ≤ 600 := mkS_len l
    have l2 : (pl m).length ≤ 600 := by have := ZT.out; omega
    have a1 := fun W => add_any y1 HT.out (by rw [List.length_take]; omega) W
    rw [← hx3] at a1
    have a2 := fun W => add_any hx3 y2 (by rw [List.length_append, List.length_take, List.length_drop]; omega) W
    rw [show (mkS l).take k ++ pl m ++ (mkS l).drop k = insT l m a by unfold insT insS; rw [HK.out], ← hx4] at a2
    have il : (insT l m a).length ≤ 600 := by unfold insT; rw [ins_len]; have := ZQ.out; have := ZT.out; omega
    have q5 := fun (W : World) => rOn_calls (insT l m a) (by omega) x4 hx4 ((k : Int) + (bt.size : Int)) W
    rw [show on (insT l m a) ((k : Int) + (bt.size : Int)) = insA l m a by unfold insA; rw [HK.out, ZT.out]] at q5
    have Q5 := Lib.hid q5
    have HX4 := Lib.hid hx4
    clear hok y1 y2 hx3 hx4 q5 l1 l2 il
    subst hx1 hx2
    go_wp2_with fail
    go_quiet (fail)
    rename_i nq
    have B4 : Below w.heap.size w (w3.drewN nq) := ⟨B3.os, B3.tape, B3.output, B3.size, B3.block⟩
    go_wp2_with fail
    refine (Q5.out _).mono ?_
    rintro e w5 ⟨rfl, hb5⟩
    have h5' : w5.heap[w.heap.size + 1]? = some (.cells #[.string ⟨#[]⟩, .int .i64 0] 27 (0, 0)) := (hb5.block (w.heap.size + 1) (lt_of_heap H3'.out)).trans H3'.out
    obtain ⟨s0, s1, g2, g3⟩ := buf_cells h5'
    have B5 := B4.trans (hb5.mono B4.size)
    have H5' := Lib.hid h5'
    clear h5'
    go_wp2
    obtain ⟨W4, e4, _, v0, v1, b4⟩ := buf_set H5'.out (.string x4) (.int .i64 (insA l m a : Int))
    rw [e4]
    exact bodyPost_ret (v := .tuple #[.agg #[.string x4, .int .i64 (insA l m a : Int)], .bool true]) (by simp [results, Tryd.results19, go_sem, v0, v1]) rfl ⟨by rw [rinsV_yes HOK.out, HX4.out], b4 _ _ (by omega) B5⟩
end Go.Proofs.YtcifakmlfndlaaaDoor
