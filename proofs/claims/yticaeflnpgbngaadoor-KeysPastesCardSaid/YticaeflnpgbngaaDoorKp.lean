import Derived.Test.YticaeflnpgbngaaDoorTt3
import Derived.Test.YticaeflnpgbngaaDoorSr3
import Derived.Test.YticaeflnpgbngaaDoorWr
namespace Go.Proofs.YticaeflnpgbngaaDoor
set_option linter.unusedVariables false
set_option linter.unusedSimpArgs false
open Go.RowKit Go.Shelf
def gP (r : Nat) : Bs := if 0 ≤ fP (r : Int) then enc (fP (r : Int)).toNat else []
theorem pl_flat (l : Bs) : pl l = (runes l).flatMap gP := by
  unfold pl ps
  rw [List.flatMap_assoc]
  refine flatMap_same _ fun r hr => ?_
  unfold gP
  by_cases h : 0 ≤ fP (r : Int)
  · rw [if_pos h, if_pos h]; simp
  · rw [if_neg h, if_neg h]; rfl
theorem gP_len (r : Nat) : (gP r).length ≤ 4 := by
  unfold gP
  split
  · exact enc_len _
  · simp
theorem gP_fl (rs : List Nat) : (rs.flatMap gP).length ≤ 4 * rs.length := by
  induction rs with
  | nil => simp
  | cons r rs ih => rw [List.flatMap_cons, List.length_append, List.length_cons]; have := gP_len r; omega
theorem gP_white {r : Nat} (h : r = 9 ∨ r = 10 ∨ r = 13) : gP r = enc 32 := by
  have e : fP (r : Int) = 32 := by unfold fP; rw [if_pos (by omega)]
  unfold gP
  rw [e]; rfl
theorem gP_ctl {r : Nat} (h : ¬ (r = 9 ∨ r = 10 ∨ r = 13)) (hc : ctl (r : Int) = true) : gP r = [] := by
  have e : fP (r : Int) = -1 := by unfold fP; rw [if_neg (by omega), if_pos hc]
  unfold gP
  rw [e]; rfl
theorem gP_own {r : Nat} (h : ¬ (r = 9 ∨ r = 10 ∨ r = 13)) (hc : ctl (r : Int) = false) : gP r = enc r := by
  have e : fP (r : Int) = r := by unfold fP; rw [if_neg (by omega), if_neg (by rw [hc]; simp)]
  unfold gP
  rw [e, if_pos (by omega)]; rfl
theorem gP_step {rs : List Nat} {k r : Nat} (h : rs[k]? = some r) : (rs.take (k + 1)).flatMap gP = (rs.take k).flatMap gP ++ gP r := by
  rw [List.take_add_one, h, List.flatMap_append]; simp
theorem val32 : Utf8.valid ((32 : Nat) : Int) = true := (valid_iff _).2 (by omega)
theorem rb32 : rb 32 = enc 32 := rb_enc val32
set_option maxHeartbeats 3200000 in
set_option maxRecDepth 100000 in
/-- ref.Plain. -/
theorem rPlain_calls (l : Bs) (hl : l.length ≤ 1000000000) (s : ByteArray) (hs : s = ⟨l.toArray⟩) (w : World) :
    Calls Tryd.prog 24 #[.string s] w fun e w' => e = .returned (.string ⟨(pl l).toArray⟩) ∧ Below w.heap.size w w' := by
  obtain ⟨cap, W, hcv, hcap, hrd, hb0⟩ := cv8 hs (by omega) w
  have q1 := rRunes_calls (some ⟨w.heap.size, 0, none⟩) cap l W hrd hcap (by omega)
  have Q1 := Lib.hid q1
  have hrl := runes_length l
  have HPL := Lib.hid (pl_flat l)
  have hrv := runes_val l
  have HRV := Lib.hid hrv
  obtain ⟨rs, hrs⟩ : ∃ rs, rs = runes l := ⟨_, rfl⟩
  rw [← hrs] at hrl HPL Q1 HRV
  clear q1 hs hrd hrv hrs hcap
  go_enter Tryd.func24, Tryd.ntmps24
  go_wp2_with fail
  refine Q1.out.mono ?_
  rintro e w1 ⟨v1, rfl, hrow1, hb1⟩
  obtain ⟨A1, c1, rfl, hn1, hm1, hrd1, hA1⟩ := hrow1.rd
  have HR1 := Lib.hid hrd1
  have B1 := hb0.trans (hb1.mono hb0.size)
  clear hrow1 hrd1 Q1 hcv
  go_wp2
  go_loopw [3, 5, 6] (fun u3 u5 u6 wr => ∃ (k : Nat) (acc : Bs), u5 = .int .i64 k ∧ k ≤ rs.length ∧ acc = (rs.take k).flatMap gP ∧ Row wr w1.heap.size 5 1 u3 acc.length (acc.map byt) ∧ Below w1.heap.size w1 wr) (fun _ u5 _ _ => rs.length - (intOf u5).toNat)
  case atStart => exact ⟨0, [], rfl, Nat.zero_le _, rfl, Row.nil _ _ _ _, Below.refl _ _⟩
  case round =>
    obtain ⟨k, acc, rfl, hk, hacc, hrow, hb⟩ := hrel
    have hal : acc.length ≤ 4 * k := by
      rw [hacc]; have := gP_fl (rs.take k); rw [List.length_take] at this; omega
    have HA := Lib.hid hacc
    clear hacc
    by_cases hlt : k < rs.length
    · obtain ⟨r, hr⟩ : ∃ r, rs[k]? = some r := ⟨_, List.getElem?_eq_getElem hlt⟩
      obtain ⟨b, off, rfl, hck⟩ := (HR1.out.later hb) k (n64 r) (by rw [List.getElem?_map, hr]; rfl)
      have hval := HRV.out r (List.mem_of_getElem? hr)
      have HST := Lib.hid (gP_step hr)
      have hkl : (k : Int) < (rs.length : Int) := by omega
      have hr7 : r ≤ 1114111 := by have := (valid_iff _).1 hval; omega
      have HV := Lib.hid hval
      clear hr hval
      by_cases h9 : r = 9
      · subst h9
        have HG := Lib.hid (gP_white (r := 9) (by omega))
        have qc := rControl_calls 32 wr
        rw [ctl32] at qc
        have QC := Lib.hid qc
        have HRB := Lib.hid rb32
        have hel := enc_len 32
        have qb := fun (W : World) => Bytes_calls 32 W
        have QB := Lib.hid qb
        clear qc qb
        go_wp2_with (first
          | (go_at_call 40; refine QC.out.mono ?_; rintro e w2 ⟨rfl, hb2⟩; have hrow2 := hrow.below hb2 (Nat.le_refl _); have B2 := hb.trans (hb2.mono hb.size))
          | (go_at_call 41; refine (QB.out w2).mono ?_; rintro e w3 ⟨v3, rfl, hrow3, hb3⟩; rw [HRB.out] at hrow3; obtain ⟨A3, c3, rfl, _, _, hrd3, _⟩ := hrow3.rd; have hrow' := hrow2.below hb3 (Nat.le_refl _); have B3 := B2.trans (hb3.mono B2.size); have hsz3 := B3.size)
          | (at_builtin; refine wpList_append_row _ rfl _ _ 25 rfl w1.heap.size 5 1 1 _ Tryd.underlying25 Tryd.info_u8 rfl (by decide) u3 _ _ rfl hrow' _ _ _ ((enc 32).map byt) rfl (by simp) hrd3 (by simp [Value.oneCell']) (by omega) (by simp only [maxLen]; omega) (by omega) ?_; intro A4 c4 w4 hrow4 hg4 hb4))
        go_roundw
        case rel => exact ⟨k + 1, acc ++ enc 32, by go_num, by omega, by rw [HST.out, HA.out, HG.out], by simpa using hrow4, B3.grown hg4 hsz3 fun k e => (hrow'.lt _ e).1⟩
        case measure => simp [intOf]; omega
      by_cases h10 : r = 10
      · subst h10
        have HG := Lib.hid (gP_white (r := 10) (by omega))
        have qc := rControl_calls 32 wr
        rw [ctl32] at qc
        have QC := Lib.hid qc
        have HRB := Lib.hid rb32
        have hel := enc_len 32
        have qb := fun (W : World) => Bytes_calls 32 W
        have QB := Lib.hid qb
        clear qc qb
        go_wp2_with (first
          | (go_at_call 40; refine QC.out.mono ?_; rintro e w2 ⟨rfl, hb2⟩; have hrow2 := hrow.below hb2 (Nat.le_refl _); have B2 := hb.trans (hb2.mono hb.size))
          | (go_at_call 41; refine (QB.out w2).mono ?_; rintro e w3 ⟨v3, rfl, hrow3, hb3⟩; rw [HRB.out] at hrow3; obtain ⟨A3, c3, rfl, _, _, hrd3, _⟩ := hrow3.rd; have hrow' := hrow2.below hb3 (Nat.le_refl _); have B3 := B2.trans (hb3.mono B2.size); have hsz3 := B3.size)
          | (at_builtin; refine wpList_append_row _ rfl _ _ 25 rfl w1.heap.size 5 1 1 _ Tryd.underlying25 Tryd.info_u8 rfl (by decide) u3 _ _ rfl hrow' _ _ _ ((enc 32).map byt) rfl (by simp) hrd3 (by simp [Value.oneCell']) (by omega) (by simp only [maxLen]; omega) (by omega) ?_; intro A4 c4 w4 hrow4 hg4 hb4))
        go_roundw
        case rel => exact ⟨k + 1, acc ++ enc 32, by go_num, by omega, by rw [HST.out, HA.out, HG.out], by simpa using hrow4, B3.grown hg4 hsz3 fun k e => (hrow'.lt _ e).1⟩
        case measure => simp [intOf]; omega
      by_cases h13 : r = 13
      · subst h13
        have HG := Lib.hid (gP_white (r := 13) (by omega))
        have qc := rControl_calls 32 wr
        rw [ctl32] at qc
        have QC := Lib.hid qc
        have HRB := Lib.hid rb32
        have hel := enc_len 32
        have qb := fun (W : World) => Bytes_calls 32 W
        have QB := Lib.hid qb
        clear qc qb
        go_wp2_with (first
          | (go_at_call 40; refine QC.out.mono ?_; rintro e w2 ⟨rfl, hb2⟩; have hrow2 := hrow.below hb2 (Nat.le_refl _); have B2 := hb.trans (hb2.mono hb.size))
          | (go_at_call 41; refine (QB.out w2).mono ?_; rintro e w3 ⟨v3, rfl, hrow3, hb3⟩; rw [HRB.out] at hrow3; obtain ⟨A3, c3, rfl, _, _, hrd3, _⟩ := hrow3.rd; have hrow' := hrow2.below hb3 (Nat.le_refl _); have B3 := B2.trans (hb3.mono B2.size); have hsz3 := B3.size)
          | (at_builtin; refine wpList_append_row _ rfl _ _ 25 rfl w1.heap.size 5 1 1 _ Tryd.underlying25 Tryd.info_u8 rfl (by decide) u3 _ _ rfl hrow' _ _ _ ((enc 32).map byt) rfl (by simp) hrd3 (by simp [Value.oneCell']) (by omega) (by simp only [maxLen]; omega) (by omega) ?_; intro A4 c4 w4 hrow4 hg4 hb4))
        go_roundw
        case rel => exact ⟨k + 1, acc ++ enc 32, by go_num, by omega, by rw [HST.out, HA.out, HG.out], by simpa using hrow4, B3.grown hg4 hsz3 fun k e => (hrow'.lt _ e).1⟩
        case measure => simp [intOf]; omega
      have d9 : ((r : Int) == 9) = false := by simp; omega
      have d10 : ((r : Int) == 10) = false := by simp; omega
      have d13 : ((r : Int) == 13) = false := by simp; omega
      have e9 : (r == 9) = false := by simpa using h9
      have e10 : (r == 10) = false := by simpa using h10
      have e13 : (r == 13) = false := by simpa using h13
      have hn : ¬ (r = 9 ∨ r = 10 ∨ r = 13) := by omega
      have qc := rControl_calls (r : Int) wr
      cases hc : ctl (r : Int) with
      | true =>
        have HG := Lib.hid (gP_ctl hn hc)
        rw [hc] at qc
        have QC := Lib.hid qc
        clear qc hc hn h9 h10 h13
        go_wp2_with (go_at_call 40; refine QC.out.mono ?_; rintro e w2 ⟨rfl, hb2⟩; have hrow2 := hrow.below hb2 (Nat.le_refl _); have B2 := hb.trans (hb2.mono hb.size))
        go_roundw
        case rel => exact ⟨k + 1, acc, by go_num, by omega, by rw [HST.out, HA.out, HG.out, List.append_nil], hrow2, B2⟩
        case measure => simp [intOf]; omega
      | false =>
        have HG := Lib.hid (gP_own hn hc)
        rw [hc] at qc
        have QC := Lib.hid qc
        have HRB := Lib.hid (rb_enc HV.out)
        have hel := enc_len r
        have qb := fun (W : World) => Bytes_calls (r : Int) W
        have QB := Lib.hid qb
        clear qc hc qb hn h9 h10 h13
        go_wp2_with (first
          | (go_at_call 40; refine QC.out.mono ?_; rintro e w2 ⟨rfl, hb2⟩; have hrow2 := hrow.below hb2 (Nat.le_refl _); have B2 := hb.trans (hb2.mono hb.size))
          | (go_at_call 41; refine (QB.out w2).mono ?_; rintro e w3 ⟨v3, rfl, hrow3, hb3⟩; rw [HRB.out] at hrow3; obtain ⟨A3, c3, rfl, _, _, hrd3, _⟩ := hrow3.rd; have hrow' := hrow2.below hb3 (Nat.le_refl _); have B3 := B2.trans (hb3.mono B2.size); have hsz3 := B3.size)
          | (at_builtin; refine wpList_append_row _ rfl _ _ 25 rfl w1.heap.size 5 1 1 _ Tryd.underlying25 Tryd.info_u8 rfl (by decide) u3 _ _ rfl hrow' _ _ _ ((enc r).map byt) rfl (by simp) hrd3 (by simp [Value.oneCell']) (by omega) (by simp only [maxLen]; omega) (by omega) ?_; intro A4 c4 w4 hrow4 hg4 hb4))
        go_roundw
        case rel => exact ⟨k + 1, acc ++ enc r, by go_num, by omega, by rw [HST.out, HA.out, HG.out], by simpa using hrow4, B3.grown hg4 hsz3 fun k e => (hrow'.lt _ e).1⟩
        case measure => simp [intOf]; omega
    · obtain rfl : k = rs.length := by omega
      have ha := HA.out
      rw [List.take_length, ← HPL.out] at ha
      obtain ⟨A5, c5, rfl, hn5, hm5, hrd5, _⟩ := hrow.rd
      have hstr := run_str (P := Tryd.prog) wr 25 5 9 Tryd.underlying25 Tryd.underlying5 Tryd.underlying9 A5 acc acc.length c5 rfl hrd5
      obtain ⟨bo, hbo⟩ : ∃ b : ByteArray, b = ⟨acc.toArray⟩ := ⟨_, rfl⟩
      rw [← hbo] at hstr
      have HBO := Lib.hid hbo
      have HAC := Lib.hid ha
      clear ha hbo
      go_wp2
      go_ret
      exact ⟨by rw [← HAC.out, ← HBO.out]; rfl, B1.trans (hb.mono B1.size)⟩
end Go.Proofs.YticaeflnpgbngaaDoor
