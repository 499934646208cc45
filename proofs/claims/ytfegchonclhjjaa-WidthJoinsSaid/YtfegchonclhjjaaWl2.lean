import Derived.Test.YtfegchonclhjjaaWa
import Derived.Test.YtfegchonclhjjaaWr6
import Derived.Test.YtfegchonclhjjaaIn
namespace Go.Proofs.Ytfegchonclhjjaa
open Go.RowKit
theorem bnds_at (j : Nat) (cs : List Bs) (k : Nat) (hk : k ≤ cs.length) : (bnds j cs)[k]? = some (j + (cs.take k).flatten.length) := by
  induction cs generalizing j k with
  | nil => have : k = 0 := by simpa using hk
           subst this; simp [bnds]
  | cons c cs ih =>
    cases k with
    | zero => simp [bnds]
    | succ k =>
      rw [bnds, List.getElem?_cons_succ, ih _ _ (by simpa using hk), List.take_succ_cons, List.flatten_cons, List.length_append, Nat.add_assoc]
theorem bnds_length (j : Nat) (cs : List Bs) : (bnds j cs).length = cs.length + 1 := by rw [bnds_ats, List.length_append, List.length_map, ats_len]; rfl
theorem flat_take_le (cs : List Bs) (k : Nat) : (cs.take k).flatten.length ≤ cs.flatten.length := by
  conv => rhs; rw [← List.take_append_drop k cs, List.flatten_append, List.length_append]
  omega
set_option maxHeartbeats 800000 in
set_option maxRecDepth 100000 in
theorem WidthCuts_walk (s : ByteArray) (w : World) :
    Calls Try.prog 4 #[.string s] w fun e w' => e = .returned (.bool true) ∧ Below w.heap.size w w' := by
  obtain ⟨l, hs⟩ : ∃ l : Bs, s = ⟨l.toArray⟩ := ⟨s.data.toList, by cases s; rfl⟩
  have hsz : s.size = l.length := by rw [hs, str_of]
  have HS := Lib.hid hs
  clear hs
  by_cases hbig : 1000 < l.length
  · go_enter Try.func4, Try.ntmps4
    go_wp2_with fail
    refine (alive_calls _).mono ?_
    rintro e w1 ⟨rfl, hb⟩
    go_wp2
    go_ret
    exact ⟨rfl, hb⟩
  have hl : l.length ≤ 4294967296 := by omega
  have hcl := cuts_len l
  have HF := Lib.hid (cuts_flat l)
  obtain ⟨cs, hcs⟩ : ∃ cs, cs = cuts l := ⟨_, rfl⟩
  have HCS := Lib.hid hcs
  rw [← hcs] at hcl
  clear hcs
  have HB := Lib.hid (bnds_length 0 cs)
  go_enter Try.func4, Try.ntmps4
  go_wp2_with (first
    | (go_at_call 15; refine (Cut_calls l hl s HS.out w).mono ?_; rintro e w1 ⟨v1, rfl, hrow1, hb1⟩; rw [← HCS.out] at hrow1; obtain ⟨A1, c1, rfl, _, _, hrd1, hA1⟩ := hrow1.rd; clear hrow1; have HR1 := Lib.hid hrd1; clear hrd1)
    | (go_at_call 16; refine (Bounds_calls l hl s HS.out w1).mono ?_; rintro e w2 ⟨v2, rfl, hrow2, hb2⟩; rw [← HCS.out, HB.out] at hrow2; obtain ⟨A2, c2, rfl, _, _, hrd2, hA2⟩ := hrow2.rd; clear hrow2; have HR2 := Lib.hid hrd2; clear hrd2)
    | (go_at_call 17; refine (rBounds_calls l hl s HS.out w2).mono ?_; rintro e w3 ⟨v3, rfl, hrow3, hb3⟩; rw [← HCS.out, HB.out] at hrow3; obtain ⟨A3, c3, rfl, _, _, hrd3, hA3⟩ := hrow3.rd; clear hrow3; have HR3 := Lib.hid hrd3; clear hrd3)
    | (go_at_call 19; refine (rCut_calls l hl s HS.out w3).mono ?_; rintro e w4 ⟨v4, rfl, hrow4, hb4⟩; rw [← HCS.out] at hrow4; obtain ⟨A4, c4, rfl, _, _, hrd4, hA4⟩ := hrow4.rd; clear hrow4; have HR4 := Lib.hid hrd4; clear hrd4)
    | (go_at_call 18; refine (same_calls A1 A4 c1 c4 cs cs w4 (((HR1.out.later hb2).later hb3).later hb4) HR4.out (by omega)).mono ?_; rintro e w5 ⟨rfl, hb5⟩; rw [decide_eq_true rfl]))
  have B5 : Below w.heap.size w w5 := (((hb1.trans (hb2.mono hb1.size)).trans (hb3.mono (by have := hb1.size; have := hb2.size; omega))).trans (hb4.mono (by have := hb1.size; have := hb2.size; have := hb3.size; omega))).trans (hb5.mono (by have := hb1.size; have := hb2.size; have := hb3.size; have := hb4.size; omega))
  have HR1' := Lib.hid ((((HR1.out.later hb2).later hb3).later hb4).later hb5)
  have HR2' := Lib.hid (((HR2.out.later hb3).later hb4).later hb5)
  have HR3' := Lib.hid ((HR3.out.later hb4).later hb5)
  clear HR1 HR2 HR3 HR4
  go_loop [6, 33] (fun u6 u33 => ∃ k : Nat, u33 = .int .i64 k ∧ k ≤ cs.length ∧ u6 = str (cs.take k).flatten) (fun _ u33 => cs.length - (intOf u33).toNat)
  case atStart => exact ⟨0, rfl, Nat.zero_le _, rfl⟩
  case round =>
    obtain ⟨k, rfl, hk, rfl⟩ := hrel
    obtain ⟨fl, hfl⟩ : ∃ fl, fl = (cs.take k).flatten := ⟨_, rfl⟩
    obtain ⟨a, ha⟩ : ∃ a : ByteArray, a = ⟨fl.toArray⟩ := ⟨_, rfl⟩
    have hasz : a.size = fl.length := by rw [ha, str_of]
    have hfle : fl.length ≤ l.length := by
      have := flat_take_le cs k
      rw [← hfl, HCS.out, HF.out] at this; exact this
    rw [← hfl, show str fl = .string a from by rw [ha]]
    have HA := Lib.hid ha
    have HFL := Lib.hid hfl
    clear ha hfl
    by_cases hgo : k < cs.length
    · obtain ⟨cc, hcc⟩ : ∃ cc, cs[k]? = some cc := ⟨_, List.getElem?_eq_getElem hgo⟩
      obtain ⟨g1, o1, rfl, hk1⟩ := HR1'.out k (str cc) (by rw [List.getElem?_map, hcc]; rfl)
      obtain ⟨g2, o2, rfl, hk2⟩ := HR2'.out k (n64 fl.length) (by rw [List.getElem?_map, bnds_at 0 cs k hk, Nat.zero_add, ← HFL.out]; rfl)
      have hfl2 : (cs.take (k + 1)).flatten = fl ++ cc := by rw [List.take_add_one, hcc, HFL.out]; simp
      have hle2 : fl.length + cc.length ≤ l.length := by
        have := flat_take_le cs (k + 1)
        rw [hfl2, HCS.out, HF.out, List.length_append] at this; exact this
      have i1 : (k : Int) < (cs.length : Int) := by omega
      have i2 : (k : Int) < (cs.length : Int) + 1 := by omega
      have hne : (((fl.length : Nat) : Int) != (a.size : Int)) = false := by rw [hasz]; simp
      have hadd : ∀ W, (Op.stringOp .add a ⟨cc.toArray⟩).run Try.prog W = .ok (.string (a ++ ⟨cc.toArray⟩)) W := fun W => by
        rw [run_string_add_sum (P := Try.prog) W _ _ (by rw [hasz, str_of]; omega)]
      have HFL2 := Lib.hid hfl2
      clear hfl2 hcc
      go_wp2
      go_round
      case rel => exact ⟨k + 1, by go_num, by omega, by rw [HFL2.out, HA.out, ByteArray.mk_append_mk]⟩
      case measure => simp [intOf]; omega
    · have hke : k = cs.length := by omega
      subst hke
      have hfl' : fl = l := by rw [HFL.out, List.take_length, HCS.out, HF.out]
      subst hfl'
      have heq := str_beq HA.out HS.out
      rw [decide_eq_true rfl] at heq
      have h2 := HR2'.out.at0 (by intro e; have := congrArg List.length e; simp [HB.out] at this)
      obtain ⟨g2, o2, rfl, hk2⟩ := h2
      have h3 := HR3'.out.at0 (by intro e; have := congrArg List.length e; simp [HB.out] at this)
      obtain ⟨g3, o3, rfl, hk3⟩ := h3
      have q2 := hk2 cs.length (n64 fl.length) (by rw [List.getElem?_map, bnds_at 0 cs _ (Nat.le_refl _), Nat.zero_add, List.take_length, HCS.out, HF.out]; rfl)
      have q3 := hk3 0 (n64 0) (by rw [List.getElem?_map, bnds_at 0 cs 0 (Nat.zero_le _)]; rfl)
      rw [Nat.add_zero] at q3
      have l2 := World.block_lt_of_cell? w5 _ q2
      have l3 := World.block_lt_of_cell? w5 _ q3
      clear hk2 hk3
      have j1 : (cs.length : Int) + 1 - 1 = (cs.length : Int) := by omega
      have j2 : (0 : Int) < (cs.length : Int) + 1 := by omega
      have j3 : (cs.length : Int) < (cs.length : Int) + 1 := by omega
      go_wp2_with (go_at_call 10; refine (alive_calls w5).mono ?_; rintro e w6 ⟨rfl, hb6⟩; have q2' := (hb6.cell (p := ⟨g2, o2 + cs.length, none⟩) l2).trans q2; have q3' := (hb6.cell (p := ⟨g3, o3, none⟩) l3).trans q3)
      go_ret
      exact ⟨rfl, B5.trans (hb6.mono B5.size)⟩
end Go.Proofs.Ytfegchonclhjjaa
