import Derived.Test.YtfgjhfmgacopoaaDoorSr1
import Derived.Test.YtfgjhfmgacopoaaDoorSg1
namespace Go.Proofs.YtfgjhfmgacopoaaDoor
open Go.RowKit
theorem rlow_le (l : Bs) (k : Nat) : -1 ≤ rlow l k ∧ rlow l k ≤ 63 := by
  unfold rlow; split <;> omega
theorem rb_len (r : Int) : (rb r).length ≤ 4 := by
  unfold rb; split
  · rw [encN_len]; repeat' split
    all_goals omega
  · simp
set_option maxHeartbeats 4000000 in
set_option maxRecDepth 100000 in
/-- ref.Next. -/
theorem rNext_calls (A : Option Addr) (c : Nat) (l : Bs) (w : World) (hr : RdB w A l) (hl : l.length ≤ 4294967296) :
    Calls Tryd.prog 29 #[.slice A l.length c] w fun e w' => e = .returned (.tuple #[i64 (nxt l).1, i64 (nxt l).2]) ∧ Below w.heap.size w w' := by
  by_cases h0 : l = []
  · subst h0
    go_enter Tryd.func29, Tryd.ntmps29
    go_wp2
    go_ret2
    exact ⟨rfl, Below.refl _ _⟩
  have hnx : nxt l = dec l := by simp [nxt, h0]
  rw [hnx]
  clear hnx
  have hlp : 0 < l.length := List.length_pos_iff.2 h0
  have hlz : ((l.length : Int) == 0) = false := by have := List.length_pos_iff.2 h0; simp; omega
  obtain ⟨b, off, rfl, hc⟩ := hr.cell h0
  have hc0 := hc 0 (List.length_pos_iff.2 h0)
  clear hc
  simp only [Nat.add_zero] at hc0
  have hlt := at_lt l 0
  obtain ⟨d1, d2, d3, d4, d5, d6⟩ := dec_cases l
  have hlo1 := rlow_le l 1
  have hlo2 := rlow_le l 2
  have hlo3 := rlow_le l 3
  have HR := Lib.hid hr
  clear hr
  by_cases c1 : at' l 0 < 128
  · have := d1 c1
    clear d1 d2 d3 d4 d5 d6
    have HD := Lib.hid this
    clear this
    go_enter Tryd.func29, Tryd.ntmps29
    go_wp2
    go_ret2
    rw [HD.out]
    exact ⟨rfl, Below.refl _ _⟩
  clear d1
  obtain ⟨x, hx⟩ : ∃ x : Nat, x = at' l 0 := ⟨_, rfl⟩
  have e2 : 64 * ((x : Int) - 192) + rlow l 1 = two l := by unfold two; rw [hx]
  have e3 : 4096 * ((x : Int) - 224) + 64 * rlow l 1 + rlow l 2 = three l := by unfold three; rw [hx]
  have e4 : 262144 * ((x : Int) - 240) + 4096 * rlow l 1 + 64 * rlow l 2 + rlow l 3 = four l := by unfold four; rw [hx]
  rw [← hx] at hc0 hlt c1 d2 d3 d4 d5 d6
  clear hx
  have HW1 := Lib.hid (fun W => low_calls (some ⟨b, off, none⟩) c l 1 1 rfl W)
  have low1 := low_calls (some ⟨b, off, none⟩) c l 1 1 rfl w HR.out hl (by omega)
  have low2 := low_calls (some ⟨b, off, none⟩) c l 2 2 rfl w HR.out hl (by omega)
  have low3 := low_calls (some ⟨b, off, none⟩) c l 3 3 rfl w HR.out hl (by omega)
  have L1 := Lib.hid low1
  have L2 := Lib.hid low2
  have L3 := Lib.hid low3
  clear low1 low2 low3 HW1
  by_cases c2 : x < 192
  · have := d5 (by omega) c2
    clear d2 d3 d4 d5 d6
    have HD := Lib.hid this
    clear this
    go_enter Tryd.func29, Tryd.ntmps29
    go_wp2_with (first
      | (go_at_call 48; with_reducible refine L1.out.mono ?_; rintro e w' ⟨rfl, rfl⟩)
      | (go_at_call 48; with_reducible refine L2.out.mono ?_; rintro e w' ⟨rfl, rfl⟩)
      | (go_at_call 48; with_reducible refine L3.out.mono ?_; rintro e w' ⟨rfl, rfl⟩))
    go_ret2
    rw [HD.out]
    exact ⟨rfl, Below.refl _ _⟩
  by_cases c3 : x < 224
  · have hd := d2 (by omega) c3
    clear d2 d3 d4 d5 d6
    have hrl := rb_len (two l)
    by_cases hb : rbeg l (rb (two l)) = true
    · by_cases h2 : (rb (two l)).length = 2
      · have ht : t2 l = true := by unfold t2; rw [hb, decide_eq_true h2]; rfl
        rw [ht] at hd
        have HD := Lib.hid hd
        clear hd
        have h2' : (((rb (two l)).length : Int) == 2) = true := by simp; omega
        have HB := Lib.hid hb
        clear hb h2 ht
        go_enter Tryd.func29, Tryd.ntmps29
        go_wp2_with (first
      | (go_at_call 48; with_reducible refine L1.out.mono ?_; rintro e w' ⟨rfl, rfl⟩)
      | (go_at_call 48; with_reducible refine L2.out.mono ?_; rintro e w' ⟨rfl, rfl⟩)
      | (go_at_call 48; with_reducible refine L3.out.mono ?_; rintro e w' ⟨rfl, rfl⟩)
          | (go_at_call 31; with_reducible refine (Bytes_calls (two l) w).mono ?_; rintro e w1 ⟨v1, rfl, hrow1, hb1⟩; obtain ⟨A1, cc1, rfl, _, _, hrd1, _⟩ := hrow1.rd)
          | (go_at_call 49; refine (begins_calls _ A1 _ cc1 l (rb (two l)) w1 (HR.out.later hb1) hrd1 hl (by omega)).mono ?_; rintro e w2 ⟨rfl, hb2⟩; rw [HB.out])
          | (go_at_call 31; refine (Bytes_calls (two l) w2).mono ?_; rintro e w3 ⟨v3, rfl, hrow3, hb3⟩; obtain ⟨A3, cc3, rfl, _, _, hrd3, _⟩ := hrow3.rd))
        go_ret2
        have hD := HD.out
        simp only [if_true] at hD
        exact ⟨by rw [hD.1, hD.2]; rfl, (hb1.trans (hb2.mono hb1.size)).trans (hb3.mono (Nat.le_trans hb1.size hb2.size))⟩
      · have ht : t2 l = false := by unfold t2; rw [decide_eq_false h2, Bool.and_false]
        rw [ht] at hd
        have HD := Lib.hid hd
        clear hd
        have h2' : (((rb (two l)).length : Int) == 2) = false := by simp; omega
        have HB := Lib.hid hb
        clear hb h2 ht
        go_enter Tryd.func29, Tryd.ntmps29
        go_wp2_with (first
      | (go_at_call 48; with_reducible refine L1.out.mono ?_; rintro e w' ⟨rfl, rfl⟩)
      | (go_at_call 48; with_reducible refine L2.out.mono ?_; rintro e w' ⟨rfl, rfl⟩)
      | (go_at_call 48; with_reducible refine L3.out.mono ?_; rintro e w' ⟨rfl, rfl⟩)
          | (go_at_call 31; with_reducible refine (Bytes_calls (two l) w).mono ?_; rintro e w1 ⟨v1, rfl, hrow1, hb1⟩; obtain ⟨A1, cc1, rfl, _, _, hrd1, _⟩ := hrow1.rd)
          | (go_at_call 49; refine (begins_calls _ A1 _ cc1 l (rb (two l)) w1 (HR.out.later hb1) hrd1 hl (by omega)).mono ?_; rintro e w2 ⟨rfl, hb2⟩; rw [HB.out])
          | (go_at_call 31; refine (Bytes_calls (two l) w2).mono ?_; rintro e w3 ⟨v3, rfl, hrow3, hb3⟩; obtain ⟨A3, cc3, rfl, _, _, hrd3, _⟩ := hrow3.rd))
        go_ret2
        have hD := HD.out
        simp only [Bool.false_eq_true, if_false] at hD
        exact ⟨by rw [hD]; rfl, (hb1.trans (hb2.mono hb1.size)).trans (hb3.mono (Nat.le_trans hb1.size hb2.size))⟩
    · have ht : t2 l = false := by unfold t2; rw [Bool.eq_false_iff.2 hb]; simp
      rw [ht] at hd
      have HD := Lib.hid hd
      clear hd
      have HB := Lib.hid (Bool.eq_false_iff.2 hb)
      clear hb ht
      go_enter Tryd.func29, Tryd.ntmps29
      go_wp2_with (first
      | (go_at_call 48; with_reducible refine L1.out.mono ?_; rintro e w' ⟨rfl, rfl⟩)
      | (go_at_call 48; with_reducible refine L2.out.mono ?_; rintro e w' ⟨rfl, rfl⟩)
      | (go_at_call 48; with_reducible refine L3.out.mono ?_; rintro e w' ⟨rfl, rfl⟩)
        | (go_at_call 31; with_reducible refine (Bytes_calls (two l) w).mono ?_; rintro e w1 ⟨v1, rfl, hrow1, hb1⟩; obtain ⟨A1, cc1, rfl, _, _, hrd1, _⟩ := hrow1.rd)
        | (go_at_call 49; refine (begins_calls _ A1 _ cc1 l (rb (two l)) w1 (HR.out.later hb1) hrd1 hl (by omega)).mono ?_; rintro e w2 ⟨rfl, hb2⟩; rw [HB.out]))
      go_ret2
      have hD := HD.out
      simp only [Bool.false_eq_true, if_false] at hD
      exact ⟨by rw [hD]; rfl, hb1.trans (hb2.mono hb1.size)⟩
  by_cases c4 : x < 240
  · have hd := d3 (by omega) c4
    clear d2 d3 d4 d5 d6
    have hrl := rb_len (three l)
    by_cases hlk : 0 ≤ rlow l 2
    case neg =>
      have ht : t3 l = false := by unfold t3; rw [decide_eq_false hlk]; rfl
      rw [ht] at hd
      have HD := Lib.hid hd
      clear hd
      go_enter Tryd.func29, Tryd.ntmps29
      go_wp2_with (first
      | (go_at_call 48; with_reducible refine L1.out.mono ?_; rintro e w' ⟨rfl, rfl⟩)
      | (go_at_call 48; with_reducible refine L2.out.mono ?_; rintro e w' ⟨rfl, rfl⟩)
      | (go_at_call 48; with_reducible refine L3.out.mono ?_; rintro e w' ⟨rfl, rfl⟩))
      go_ret2
      have := HD.out
      simp only [Bool.false_eq_true, if_false] at this
      rw [this]
      exact ⟨rfl, Below.refl _ _⟩
    by_cases hb : rbeg l (rb (three l)) = true
    · by_cases h2 : (rb (three l)).length = 3
      · have ht : t3 l = true := by unfold t3; rw [decide_eq_true hlk, Bool.true_and, hb, decide_eq_true h2]; rfl
        rw [ht] at hd
        have HD := Lib.hid hd
        clear hd
        have h2' : (((rb (three l)).length : Int) == 3) = true := by simp; omega
        have HB := Lib.hid hb
        clear hb h2 ht
        go_enter Tryd.func29, Tryd.ntmps29
        go_wp2_with (first
      | (go_at_call 48; with_reducible refine L1.out.mono ?_; rintro e w' ⟨rfl, rfl⟩)
      | (go_at_call 48; with_reducible refine L2.out.mono ?_; rintro e w' ⟨rfl, rfl⟩)
      | (go_at_call 48; with_reducible refine L3.out.mono ?_; rintro e w' ⟨rfl, rfl⟩)
          | (go_at_call 31; with_reducible refine (Bytes_calls (three l) w).mono ?_; rintro e w1 ⟨v1, rfl, hrow1, hb1⟩; obtain ⟨A1, cc1, rfl, _, _, hrd1, _⟩ := hrow1.rd)
          | (go_at_call 49; refine (begins_calls _ A1 _ cc1 l (rb (three l)) w1 (HR.out.later hb1) hrd1 hl (by omega)).mono ?_; rintro e w2 ⟨rfl, hb2⟩; rw [HB.out])
          | (go_at_call 31; refine (Bytes_calls (three l) w2).mono ?_; rintro e w3 ⟨v3, rfl, hrow3, hb3⟩; obtain ⟨A3, cc3, rfl, _, _, hrd3, _⟩ := hrow3.rd))
        go_ret2
        have hD := HD.out
        simp only [if_true] at hD
        exact ⟨by rw [hD.1, hD.2]; rfl, (hb1.trans (hb2.mono hb1.size)).trans (hb3.mono (Nat.le_trans hb1.size hb2.size))⟩
      · have ht : t3 l = false := by unfold t3; rw [decide_eq_false h2, Bool.and_false]
        rw [ht] at hd
        have HD := Lib.hid hd
        clear hd
        have h2' : (((rb (three l)).length : Int) == 3) = false := by simp; omega
        have HB := Lib.hid hb
        clear hb h2 ht
        go_enter Tryd.func29, Tryd.ntmps29
        go_wp2_with (first
      | (go_at_call 48; with_reducible refine L1.out.mono ?_; rintro e w' ⟨rfl, rfl⟩)
      | (go_at_call 48; with_reducible refine L2.out.mono ?_; rintro e w' ⟨rfl, rfl⟩)
      | (go_at_call 48; with_reducible refine L3.out.mono ?_; rintro e w' ⟨rfl, rfl⟩)
          | (go_at_call 31; with_reducible refine (Bytes_calls (three l) w).mono ?_; rintro e w1 ⟨v1, rfl, hrow1, hb1⟩; obtain ⟨A1, cc1, rfl, _, _, hrd1, _⟩ := hrow1.rd)
          | (go_at_call 49; refine (begins_calls _ A1 _ cc1 l (rb (three l)) w1 (HR.out.later hb1) hrd1 hl (by omega)).mono ?_; rintro e w2 ⟨rfl, hb2⟩; rw [HB.out])
          | (go_at_call 31; refine (Bytes_calls (three l) w2).mono ?_; rintro e w3 ⟨v3, rfl, hrow3, hb3⟩; obtain ⟨A3, cc3, rfl, _, _, hrd3, _⟩ := hrow3.rd))
        go_ret2
        have hD := HD.out
        simp only [Bool.false_eq_true, if_false] at hD
        exact ⟨by rw [hD]; rfl, (hb1.trans (hb2.mono hb1.size)).trans (hb3.mono (Nat.le_trans hb1.size hb2.size))⟩
    · have ht : t3 l = false := by unfold t3; rw [Bool.eq_false_iff.2 hb]; simp
      rw [ht] at hd
      have HD := Lib.hid hd
      clear hd
      have HB := Lib.hid (Bool.eq_false_iff.2 hb)
      clear hb ht
      go_enter Tryd.func29, Tryd.ntmps29
      go_wp2_with (first
      | (go_at_call 48; with_reducible refine L1.out.mono ?_; rintro e w' ⟨rfl, rfl⟩)
      | (go_at_call 48; with_reducible refine L2.out.mono ?_; rintro e w' ⟨rfl, rfl⟩)
      | (go_at_call 48; with_reducible refine L3.out.mono ?_; rintro e w' ⟨rfl, rfl⟩)
        | (go_at_call 31; with_reducible refine (Bytes_calls (three l) w).mono ?_; rintro e w1 ⟨v1, rfl, hrow1, hb1⟩; obtain ⟨A1, cc1, rfl, _, _, hrd1, _⟩ := hrow1.rd)
        | (go_at_call 49; refine (begins_calls _ A1 _ cc1 l (rb (three l)) w1 (HR.out.later hb1) hrd1 hl (by omega)).mono ?_; rintro e w2 ⟨rfl, hb2⟩; rw [HB.out]))
      go_ret2
      have hD := HD.out
      simp only [Bool.false_eq_true, if_false] at hD
      exact ⟨by rw [hD]; rfl, hb1.trans (hb2.mono hb1.size)⟩
  by_cases c5 : x < 248
  · have hd := d4 (by omega) c5
    clear d2 d3 d4 d5 d6
    have hrl := rb_len (four l)
    by_cases hlk : 0 ≤ rlow l 3
    case neg =>
      have ht : t4 l = false := by unfold t4; rw [decide_eq_false hlk]; rfl
      rw [ht] at hd
      have HD := Lib.hid hd
      clear hd
      go_enter Tryd.func29, Tryd.ntmps29
      go_wp2_with (first
      | (go_at_call 48; with_reducible refine L1.out.mono ?_; rintro e w' ⟨rfl, rfl⟩)
      | (go_at_call 48; with_reducible refine L2.out.mono ?_; rintro e w' ⟨rfl, rfl⟩)
      | (go_at_call 48; with_reducible refine L3.out.mono ?_; rintro e w' ⟨rfl, rfl⟩))
      go_ret2
      have := HD.out
      simp only [Bool.false_eq_true, if_false] at this
      rw [this]
      exact ⟨rfl, Below.refl _ _⟩
    by_cases hb : rbeg l (rb (four l)) = true
    · by_cases h2 : (rb (four l)).length = 4
      · have ht : t4 l = true := by unfold t4; rw [decide_eq_true hlk, Bool.true_and, hb, decide_eq_true h2]; rfl
        rw [ht] at hd
        have HD := Lib.hid hd
        clear hd
        have h2' : (((rb (four l)).length : Int) == 4) = true := by simp; omega
        have HB := Lib.hid hb
        clear hb h2 ht
        go_enter Tryd.func29, Tryd.ntmps29
        go_wp2_with (first
      | (go_at_call 48; with_reducible refine L1.out.mono ?_; rintro e w' ⟨rfl, rfl⟩)
      | (go_at_call 48; with_reducible refine L2.out.mono ?_; rintro e w' ⟨rfl, rfl⟩)
      | (go_at_call 48; with_reducible refine L3.out.mono ?_; rintro e w' ⟨rfl, rfl⟩)
          | (go_at_call 31; with_reducible refine (Bytes_calls (four l) w).mono ?_; rintro e w1 ⟨v1, rfl, hrow1, hb1⟩; obtain ⟨A1, cc1, rfl, _, _, hrd1, _⟩ := hrow1.rd)
          | (go_at_call 49; refine (begins_calls _ A1 _ cc1 l (rb (four l)) w1 (HR.out.later hb1) hrd1 hl (by omega)).mono ?_; rintro e w2 ⟨rfl, hb2⟩; rw [HB.out])
          | (go_at_call 31; refine (Bytes_calls (four l) w2).mono ?_; rintro e w3 ⟨v3, rfl, hrow3, hb3⟩; obtain ⟨A3, cc3, rfl, _, _, hrd3, _⟩ := hrow3.rd))
        go_ret2
        have hD := HD.out
        simp only [if_true] at hD
        exact ⟨by rw [hD.1, hD.2]; rfl, (hb1.trans (hb2.mono hb1.size)).trans (hb3.mono (Nat.le_trans hb1.size hb2.size))⟩
      · have ht : t4 l = false := by unfold t4; rw [decide_eq_false h2, Bool.and_false]
        rw [ht] at hd
        have HD := Lib.hid hd
        clear hd
        have h2' : (((rb (four l)).length : Int) == 4) = false := by simp; omega
        have HB := Lib.hid hb
        clear hb h2 ht
        go_enter Tryd.func29, Tryd.ntmps29
        go_wp2_with (first
      | (go_at_call 48; with_reducible refine L1.out.mono ?_; rintro e w' ⟨rfl, rfl⟩)
      | (go_at_call 48; with_reducible refine L2.out.mono ?_; rintro e w' ⟨rfl, rfl⟩)
      | (go_at_call 48; with_reducible refine L3.out.mono ?_; rintro e w' ⟨rfl, rfl⟩)
          | (go_at_call 31; with_reducible refine (Bytes_calls (four l) w).mono ?_; rintro e w1 ⟨v1, rfl, hrow1, hb1⟩; obtain ⟨A1, cc1, rfl, _, _, hrd1, _⟩ := hrow1.rd)
          | (go_at_call 49; refine (begins_calls _ A1 _ cc1 l (rb (four l)) w1 (HR.out.later hb1) hrd1 hl (by omega)).mono ?_; rintro e w2 ⟨rfl, hb2⟩; rw [HB.out])
          | (go_at_call 31; refine (Bytes_calls (four l) w2).mono ?_; rintro e w3 ⟨v3, rfl, hrow3, hb3⟩; obtain ⟨A3, cc3, rfl, _, _, hrd3, _⟩ := hrow3.rd))
        go_ret2
        have hD := HD.out
        simp only [Bool.false_eq_true, if_false] at hD
        exact ⟨by rw [hD]; rfl, (hb1.trans (hb2.mono hb1.size)).trans (hb3.mono (Nat.le_trans hb1.size hb2.size))⟩
    · have ht : t4 l = false := by unfold t4; rw [Bool.eq_false_iff.2 hb]; simp
      rw [ht] at hd
      have HD := Lib.hid hd
      clear hd
      have HB := Lib.hid (Bool.eq_false_iff.2 hb)
      clear hb ht
      go_enter Tryd.func29, Tryd.ntmps29
      go_wp2_with (first
      | (go_at_call 48; with_reducible refine L1.out.mono ?_; rintro e w' ⟨rfl, rfl⟩)
      | (go_at_call 48; with_reducible refine L2.out.mono ?_; rintro e w' ⟨rfl, rfl⟩)
      | (go_at_call 48; with_reducible refine L3.out.mono ?_; rintro e w' ⟨rfl, rfl⟩)
        | (go_at_call 31; with_reducible refine (Bytes_calls (four l) w).mono ?_; rintro e w1 ⟨v1, rfl, hrow1, hb1⟩; obtain ⟨A1, cc1, rfl, _, _, hrd1, _⟩ := hrow1.rd)
        | (go_at_call 49; refine (begins_calls _ A1 _ cc1 l (rb (four l)) w1 (HR.out.later hb1) hrd1 hl (by omega)).mono ?_; rintro e w2 ⟨rfl, hb2⟩; rw [HB.out]))
      go_ret2
      have hD := HD.out
      simp only [Bool.false_eq_true, if_false] at hD
      exact ⟨by rw [hD]; rfl, hb1.trans (hb2.mono hb1.size)⟩
  have := d6 (by omega)
  clear d2 d3 d4 d5 d6
  have HD := Lib.hid this
  clear this
  go_enter Tryd.func29, Tryd.ntmps29
  go_wp2_with (first
      | (go_at_call 48; with_reducible refine L1.out.mono ?_; rintro e w' ⟨rfl, rfl⟩)
      | (go_at_call 48; with_reducible refine L2.out.mono ?_; rintro e w' ⟨rfl, rfl⟩)
      | (go_at_call 48; with_reducible refine L3.out.mono ?_; rintro e w' ⟨rfl, rfl⟩))
  go_ret2
  rw [HD.out]
  exact ⟨rfl, Below.refl _ _⟩
end Go.Proofs.YtfgjhfmgacopoaaDoor
