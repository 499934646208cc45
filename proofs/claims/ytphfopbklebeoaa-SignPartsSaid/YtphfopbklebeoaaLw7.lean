import Derived.Test.YtphfopbklebeoaaLw3
import Derived.Test.YtphfopbklebeoaaPc
import Derived.Test.YtphfopbklebeoaaM2
import Derived.Deep.RegionHeld3
namespace Go.Proofs.Ytphfopbklebeoaa
open Go.RowKit
set_option maxHeartbeats 800000 in
set_option maxRecDepth 100000 in
theorem SignParts_walk (A : Option Addr) (c : Nat) (b : Bs) (k : Int) (w : World) (hr : RdB w A b) (hlc : b.length ≤ c) (hm : c ≤ maxLen) (hk1 : -9223372036854775808 ≤ k) (hk2 : k ≤ 9223372036854775807) :
    Calls Try.prog 7 #[.slice A b.length c, .int .i64 k] w fun e w' => e = .returned (.bool true) ∧ Below w.heap.size w w' := by
  by_cases hbig : 1000 < b.length
  · go_enter Try.func7, Try.ntmps7
    go_wp2_with fail
    refine (alive_calls _).mono ?_
    rintro e w1 ⟨rfl, hb⟩
    go_wp2
    go_ret
    exact ⟨rfl, hb⟩
  by_cases hneg : k < 0
  · go_enter Try.func7, Try.ntmps7
    go_wp2_with fail
    refine (alive_calls _).mono ?_
    rintro e w1 ⟨rfl, hb⟩
    go_wp2
    go_ret
    exact ⟨rfl, hb⟩
  have hl : b.length ≤ 1000 := by omega
  have hk0 : 0 ≤ k := by omega
  have HR := Lib.hid hr
  clear hr hbig hneg hk1
  unfold maxLen at hm
  go_enter Try.func7, Try.ntmps7
  go_wp2_with fail
  go_loopw [5, 6] (fun u5 u6 wr => ∃ (p j : Nat), u5 = .int .i64 p ∧ u6 = .int .i64 j ∧ CutAt b p ∧ Below w.heap.size w wr ∧ (j : Int) ≤ k) (fun u5 _ _ => b.length - (intOf u5).toNat)
  case atStart => exact ⟨0, 0, rfl, rfl, CutAt.zero b, Below.refl _ _, hk0⟩
  case round =>
    obtain ⟨p, j, rfl, rfl, hcut, hB, hjk⟩ := hrel
    have hpl := hcut.1
    have HCUT := Lib.hid hcut
    clear hcut
    by_cases hgo : (j : Int) < k ∧ p < b.length
    · obtain ⟨g1, g2⟩ := hgo
      obtain ⟨d, hdq⟩ : ∃ d : Bs, d = b.drop p := ⟨_, rfl⟩
      have hdln : b.length - p = d.length := by rw [hdq]; simp
      have hne : d ≠ [] := List.length_pos_iff.1 (by omega)
      have hdl := dec_le hne
      have hdp := dec_pos d
      have hnx := nxt_ne hne
      have hrd := Rd.drop (HR.out.later hB) p c (by simpa using hlc)
      rw [← List.map_drop, ← hdq, if_neg (by omega)] at hrd
      have HDQ := Lib.hid hdq
      have HDLN := Lib.hid hdln
      have HRD := Lib.hid hrd
      clear hdq hdln hrd
      go_wp2_with fail
      rw [HDLN.out]
      refine (rNext_calls _ (c - p) d wr HRD.out (by have := HDLN.out; omega)).mono ?_
      rintro e w1 ⟨rfl, hb1⟩
      rw [hnx]
      have hpn : p + (dec d).2 ≤ b.length := by have := HDLN.out; omega
      go_wp2
      go_roundw
      case rel =>
        refine ⟨p + (dec d).2, j + 1, by simp, by simp, ?_, hB.trans (hb1.mono hB.size), by omega⟩
        rw [HDQ.out]
        exact HCUT.out.next g2
      case measure => simp [intOf]; omega
    · have ht1 : c - p + p = c := by omega
      have hgo' : (decide ((j : Int) < k) && decide ((p : Int) < (b.length : Int))) = false := by
        rw [Bool.eq_false_iff]; intro h; simp at h; exact hgo (by omega)
      by_cases g1 : (j : Int) < k
      all_goals (first | (have g2 : ¬ p < b.length := by omega) | skip)
      all_goals clear hgo hgo'
      all_goals
        obtain ⟨t1, ht1q⟩ : ∃ d : Bs, d = b.take p := ⟨_, rfl⟩
        obtain ⟨t2, ht2q⟩ : ∃ d : Bs, d = b.drop p := ⟨_, rfl⟩
        have hl1 : t1.length = p := by rw [ht1q]; simp; omega
        have hl2 : t2.length = b.length - p := by rw [ht2q]; simp
        have hra : ∀ W, Below w.heap.size w W → RdB W A t1 := fun W h => by
          have := Rd.take (HR.out.later h) p
          rw [← List.map_take, ← ht1q] at this; exact this
        have hrb : ∀ W, Below w.heap.size w W → RdB W (if c = p then A else A.map (fun x => x.add p)) t2 := fun W h => by
          have := Rd.drop (HR.out.later h) p c (by simpa using hlc)
          rw [← List.map_drop, ← ht2q] at this; exact this
        have HRA := Lib.hid hra
        have HRB := Lib.hid hrb
        have HT1 := Lib.hid ht1q
        have HT2 := Lib.hid ht2q
        have HL1 := Lib.hid hl1
        have HL2 := Lib.hid hl2
        have i0 : (0 : Int) ≤ (p : Int) := by omega
        have i1 : (p : Int) ≤ (b.length : Int) := by omega
        have i2 : (p : Int) ≤ (c : Int) := by omega
        have r1 : ∀ W, Below w.heap.size w W → Calls Try.prog 15 #[.slice A p c] W fun e w' => ∃ v, e = .returned v ∧ Row w' W.heap.size 21 1 v (runes t1).length ((runes t1).map i32) ∧ Below W.heap.size W w' := fun W h => by
          have := Runes_calls A c t1 W (hra W h) (by omega)
          rw [hl1] at this; exact this
        have r2 : ∀ W, Below w.heap.size w W → Calls Try.prog 15 #[.slice (if c = p then A else A.map (fun x => x.add p)) (b.length - p) (c - p)] W fun e w' => ∃ v, e = .returned v ∧ Row w' W.heap.size 21 1 v (runes t2).length ((runes t2).map i32) ∧ Below W.heap.size W w' := fun W h => by
          have := Runes_calls _ (c - p) t2 W (hrb W h) (by omega)
          rw [hl2] at this; exact this
        have R1 := Lib.hid r1
        have q1 : ∀ W, Below w.heap.size w W → Calls Try.prog 16 #[.slice A p c] W fun e w' => e = .returned (.string ⟨(clean t1).toArray⟩) ∧ Below W.heap.size W w' := fun W h => by
          have := Clean_calls A c t1 W (hra W h) (by omega)
          rw [hl1] at this; exact this
        have q2 : ∀ W, Below w.heap.size w W → Calls Try.prog 16 #[.slice (if c = p then A else A.map (fun x => x.add p)) (b.length - p) (c - p)] W fun e w' => e = .returned (.string ⟨(clean t2).toArray⟩) ∧ Below W.heap.size W w' := fun W h => by
          have := Clean_calls _ (c - p) t2 W (hrb W h) (by omega)
          rw [hl2] at this; exact this
        have Q1 := Lib.hid q1
        have hr1 := runes_length t1
        have hr2 := runes_length t2
        clear hra hrb ht1q ht2q r1 q1
        by_cases hcp : c = p
      all_goals (first | (rw [if_pos hcp] at r2 q2; subst hcp; simp only [Nat.sub_self, Nat.sub_eq_zero_of_le hlc] at r2 q2) | rw [if_neg hcp] at r2 q2)
      all_goals
        have R2 := Lib.hid r2
        have Q2 := Lib.hid q2
        clear r2 q2
        have e4 : (runes t1).length ≤ 1000 := by omega
        have e6 : ((runes t2).map i32).length = (runes t2).length * 1 := by simp
        have e7 : ((runes t1).length + (runes t2).length) * 4 ≤ 140737488355328 := by omega
        have e8 : ∀ u ∈ (runes t2).map i32, u.oneCell' = true := by simp [Value.oneCell']
        have e9 : ∀ j, wr.drew.heap.size ≤ j → w.heap.size ≤ j := fun j h => Nat.le_trans hB.size h
        have e5 : (runes t1).length + (runes t2).length ≤ maxLen := by simp only [maxLen]; omega
        go_wp2
        go_region_held3 (fun w' => Below w.heap.size w w') (first
          | exact hB.drew
          | exact B3
          | exact B2
          | exact B1
          | assumption) (first
          | (go_at_call 15; (with_reducible refine (R1.out wr.drew hB.drew).mono ?_); rintro e w1 ⟨v1, rfl, hrow1, hb1⟩; obtain ⟨A1, c1, rfl, _, _, _, _⟩ := hrow1.rd; have B1 : Below w.heap.size w w1 := hB.drew.trans (hb1.mono hB.size))
          | (go_at_call 15; (with_reducible refine (R2.out w1 B1).mono ?_); rintro e w2 ⟨v2, rfl, hrow2, hb2⟩; obtain ⟨A2, c2, rfl, _, _, hrd2, _⟩ := hrow2.rd; have B2 : Below w.heap.size w w2 := B1.trans (hb2.mono B1.size))
          | (refine step_append_row _ (by rfl) _ _ _ (by rfl) wr.heap.size 21 1 4 _ Try.underlying29 Try.info_i32 rfl (by decide) (.slice A1 (runes t1).length c1) _ _ (by rfl) (hrow1.below hb2 (Nat.le_refl _)) A2 _ _ ((runes t2).map i32) (by rfl) e6 hrd2 e8 e7 e5 (Nat.le_trans hb1.size hb2.size) ?_; intro A3 c3 w3 hrow3 hg3 hb3; have B3 : Below w.heap.size w w3 := B2.grown hg3 B2.size (fun j e => e9 j (hrow1.lt _ e).1)))
        obtain ⟨rs, hrs⟩ : ∃ y : List Nat, y = runes t1 ++ runes t2 := ⟨_, rfl⟩
        have hrb : runes b = rs := by rw [hrs, HT1.out, HT2.out]; exact HCUT.out.runes_eq
        have hl6 : (runes t1).length + (runes t2).length = rs.length := by rw [hrs]; simp
        obtain ⟨A3', c3', e, _, _, hrd3, _⟩ := hrow3.rd
        cases e
        have hrd3' : Rd w3 A3 (rs.map i32) := by rw [hrs]; simpa using hrd3
        have hstr : (⟨(clean t1).toArray⟩ : ByteArray) ++ ⟨(clean t2).toArray⟩ = ⟨(clean b).toArray⟩ := by
          rw [HCUT.out.clean_eq, ← HT1.out, ← HT2.out]
          apply ByteArray.ext
          simp [ByteArray.data_append]
        have hrsl : rs.length ≤ b.length := by rw [← hrb]; exact runes_length b
        have e1 : b.length ≤ 4294967296 := by omega
        have e2 : rs.length ≤ 4294967296 := by omega
        have e3 : ∀ r ∈ rs, r ≤ 4294967296 := by rw [← hrb]; exact runes_le b
        have E3 := Lib.hid e3
        clear e3
        have HRS := Lib.hid hrb
        simp only [hl6]
        clear hl6 hrs hrow3 hrow1 hrow2 hrd2 hrb hrd3 hg3 hb3 hb1 hb2
        have hk1 := clean_len t1
        have hk2 := clean_len t2
        have hks : (clean t1).length + (clean t2).length ≤ 9223372036854775807 := by omega
        have hadd : ∀ W, (Op.stringOp .add ⟨(clean t1).toArray⟩ ⟨(clean t2).toArray⟩).run Try.prog W = .ok (.string ⟨(clean b).toArray⟩) W := fun W => by
          rw [run_string_add_sum (P := Try.prog) W _ _ (by simpa [ByteArray.size] using hks), hstr]
        clear hstr
        go_wp2
        go_region_held3 (fun w' => Below w.heap.size w w') (first
          | exact B3.drew
          | exact B9
          | exact B8
          | exact B7
          | exact B6
          | exact B5
          | exact B4
          | assumption) (first
          | (go_at_call 10; refine (alive_calls _).mono ?_; rintro e w4 ⟨rfl, hb4⟩; have B4 : Below w.heap.size w w4 := B3.drew.trans (hb4.mono B3.size); have C4 : Below w3.heap.size w3 w4 := ((Below.refl w3.heap.size w3).drew).trans hb4)
          | (go_at_call 18; refine (rRunes_calls A c b w4 (HR.out.later B4) hlc e1).mono ?_; rintro e w5 ⟨v5, rfl, hrow5, hb5⟩; rw [HRS.out] at hrow5; obtain ⟨A5, c5, rfl, _, _, hrd5, _⟩ := hrow5.rd; have B5 : Below w.heap.size w w5 := B4.trans (hb5.mono B4.size); have C5 : Below w3.heap.size w3 w5 := C4.trans (hb5.mono C4.size))
          | (go_at_call 17; refine (same_calls A3 A5 c3 c5 rs rs w5 (Rd.later hrd3' C5) hrd5 e2 e2 E3.out).mono ?_; rintro e w6 ⟨rfl, hb6⟩; rw [decide_eq_true rfl]; have B6 : Below w.heap.size w w6 := B5.trans (hb6.mono B5.size))
          | (go_at_call 16; (with_reducible refine (Q1.out w6 B6).mono ?_); rintro e w7 ⟨rfl, hb7⟩; have B7 : Below w.heap.size w w7 := B6.trans (hb7.mono B6.size))
          | (go_at_call 16; (with_reducible refine (Q2.out w7 B7).mono ?_); rintro e w8 ⟨rfl, hb8⟩; have B8 : Below w.heap.size w w8 := B7.trans (hb8.mono B7.size))
          | (go_at_call 16; refine (Clean_calls A c b w8 (HR.out.later B8) e1).mono ?_; rintro e w9 ⟨rfl, hb9⟩; have B9 : Below w.heap.size w w9 := B8.trans (hb9.mono B8.size)))
        go_wp2
        go_ret
        exact ⟨rfl, B9⟩
end Go.Proofs.Ytphfopbklebeoaa
