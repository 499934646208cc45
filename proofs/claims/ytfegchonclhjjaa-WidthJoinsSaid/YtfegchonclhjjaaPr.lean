import Derived.Test.YtfegchonclhjjaaPu
namespace Go.Proofs.Ytfegchonclhjjaa
open Go.RowKit
/-! The reference's words of layer 1, in plain Lean. -/
def o8 (n : Nat) : UInt8 := UInt8.ofNat n
theorem o8_toNat (n : Nat) : (o8 n).toNat = n % 256 := by simp [o8]
def encN (c : Nat) : Bs :=
  if c < 128 then [o8 c]
  else if c < 2048 then [o8 (192 + c / 64), o8 (128 + c % 64)]
  else if c < 65536 then [o8 (224 + c / 4096), o8 (128 + c / 64 % 64), o8 (128 + c % 64)]
  else [o8 (240 + c / 262144), o8 (128 + c / 4096 % 64), o8 (128 + c / 64 % 64), o8 (128 + c % 64)]
theorem bl_encode (i : Int) (h : Utf8.valid i = true) : bl (Utf8.encode i) = encN i.toNat := by
  unfold Utf8.encode encN bl o8
  simp only [h, if_true]
  split
  · rfl
  · split
    · rfl
    · split <;> rfl
theorem enc_eq {r : Nat} (h : Utf8.valid (r : Int) = true) : enc r = encN r := by
  have := bl_encode (r : Int) h
  rw [Int.toNat_natCast] at this
  exact this
theorem valid_iff (r : Int) : Utf8.valid r = true ↔ (0 ≤ r ∧ r < 55296) ∨ (57344 ≤ r ∧ r ≤ 1114111) := by
  simp only [Utf8.valid, Bool.or_eq_true, Bool.and_eq_true, decide_eq_true_eq]
/-- ref.Bytes. -/
def rb (r : Int) : Bs := if Utf8.valid r = true then encN r.toNat else []
/-- ref.low. -/
def rlow (l : Bs) (k : Nat) : Int := if k < l.length ∧ 128 ≤ at' l k ∧ at' l k ≤ 191 then (at' l k : Int) - 128 else -1
theorem rlow_ct {l : Bs} {k : Nat} (h : ct l k = true) : rlow l k = ((at' l k % 64 : Nat) : Int) ∧ at' l k = 128 + at' l k % 64 := by
  unfold ct at h
  simp only [Bool.and_eq_true, decide_eq_true_eq, beq_iff_eq] at h
  have h2 : 128 ≤ at' l k ∧ at' l k ≤ 191 := by omega
  unfold rlow
  rw [if_pos ⟨h.1, h2⟩]
  omega
theorem rlow_not {l : Bs} {k : Nat} (h : ct l k = false) : rlow l k = -1 := by
  unfold ct at h
  simp only [Bool.and_eq_false_iff, decide_eq_false_iff_not, beq_eq_false_iff_ne] at h
  unfold rlow
  rw [if_neg]
  rintro ⟨a, b, c⟩
  rcases h with h | h
  · exact h a
  · omega
theorem ct_mono {l : Bs} {k : Nat} (h : ct l k = true) : k < l.length := ct_lt h
/-- ref.begins. -/
def rbeg (l p : Bs) : Bool := decide (p ≠ []) && decide (l.take p.length = p)
theorem rbeg_at {l p : Bs} (h : rbeg l p = true) (k : Nat) (hk : k < p.length) : at' l k = at' p k ∧ k < l.length := by
  unfold rbeg at h
  simp only [Bool.and_eq_true, decide_eq_true_eq] at h
  have hl : p.length ≤ l.length := by
    have := congrArg List.length h.2
    rw [List.length_take] at this; omega
  refine ⟨?_, by omega⟩
  have e : at' (l.take p.length) k = at' l k := by unfold at'; simp [List.getD, hk]
  rw [← e, h.2]
theorem rbeg_of {l p : Bs} (h0 : p ≠ []) (hl : p.length ≤ l.length) (h : ∀ k, k < p.length → at' l k = at' p k) : rbeg l p = true := by
  unfold rbeg
  simp only [Bool.and_eq_true, decide_eq_true_eq]
  refine ⟨h0, ?_⟩
  apply List.ext_getElem
  · rw [List.length_take]; omega
  · intro k h1 h2
    have := h k h2
    unfold at' at this
    rw [List.getElem_take]
    simp [List.getD, h2, show k < l.length by omega] at this
    exact UInt8.toNat_inj.1 this
/-- The three candidates. -/
def two (l : Bs) : Int := 64 * ((at' l 0 : Int) - 192) + rlow l 1
def three (l : Bs) : Int := 4096 * ((at' l 0 : Int) - 224) + 64 * rlow l 1 + rlow l 2
def four (l : Bs) : Int := 262144 * ((at' l 0 : Int) - 240) + 4096 * rlow l 1 + 64 * rlow l 2 + rlow l 3
def t2 (l : Bs) : Bool := rbeg l (rb (two l)) && decide ((rb (two l)).length = 2)
def t3 (l : Bs) : Bool := decide (0 ≤ rlow l 2) && rbeg l (rb (three l)) && decide ((rb (three l)).length = 3)
def t4 (l : Bs) : Bool := decide (0 ≤ rlow l 3) && rbeg l (rb (four l)) && decide ((rb (four l)).length = 4)
theorem encN_len (c : Nat) : (encN c).length = if c < 128 then 1 else if c < 2048 then 2 else if c < 65536 then 3 else 4 := by
  unfold encN; repeat' split
  all_goals rfl
theorem at_encN2 {c : Nat} (h1 : ¬ c < 128) (h2 : c < 2048) : encN c = [o8 (192 + c / 64), o8 (128 + c % 64)] := by unfold encN; rw [if_neg h1, if_pos h2]
theorem at_encN3 {c : Nat} (h1 : ¬ c < 2048) (h2 : c < 65536) : encN c = [o8 (224 + c / 4096), o8 (128 + c / 64 % 64), o8 (128 + c % 64)] := by unfold encN; rw [if_neg (by omega), if_neg h1, if_pos h2]
theorem at_encN4 {c : Nat} (h1 : ¬ c < 65536) : encN c = [o8 (240 + c / 262144), o8 (128 + c / 4096 % 64), o8 (128 + c / 64 % 64), o8 (128 + c % 64)] := by unfold encN; rw [if_neg (by omega), if_neg (by omega), if_neg h1]
theorem rb_pos {r : Int} (h : rb r ≠ []) : Utf8.valid r = true := by
  unfold rb at h; split at h
  · assumption
  · exact absurd rfl h
theorem t2_eq (l : Bs) (h0 : 192 ≤ at' l 0) (h1 : at' l 0 < 224) : t2 l = (ct l 1 && decide (128 ≤ at' l 0 % 32 * 64 + at' l 1 % 64)) := by
  rw [Bool.eq_iff_iff]
  unfold t2
  simp only [Bool.and_eq_true, decide_eq_true_eq]
  constructor
  · rintro ⟨hb, hl⟩
    have hv := rb_pos (r := two l) (by intro e; rw [e] at hl; simp at hl)
    have hr : rb (two l) = encN (two l).toNat := by unfold rb; rw [if_pos hv]
    rw [hr] at hb hl
    rw [encN_len] at hl
    have hc1 : ¬ (two l).toNat < 128 := by intro h; rw [if_pos h] at hl; omega
    have hc2 : (two l).toNat < 2048 := by
      rw [if_neg hc1] at hl
      by_cases h : (two l).toNat < 2048
      · exact h
      · rw [if_neg h] at hl; split at hl <;> omega
    rw [at_encN2 hc1 hc2] at hb
    have e0 := (rbeg_at hb 0 (by simp)).1
    have e1 := rbeg_at hb 1 (by simp)
    simp only [at', List.getD, List.getElem?_cons_zero, List.getElem?_cons_succ, Option.getD_some, o8_toNat] at e0 e1
    have a0 : at' l 0 = (192 + (two l).toNat / 64) % 256 := e0
    have a1 : at' l 1 = (128 + (two l).toNat % 64) % 256 := e1.1
    have hct : ct l 1 = true := by
      unfold ct; simp only [Bool.and_eq_true, decide_eq_true_eq, beq_iff_eq]; exact ⟨e1.2, by omega⟩
    refine ⟨hct, ?_⟩
    have hlow := (rlow_ct hct).1
    unfold two at hc1
    rw [hlow] at hc1
    omega
  · rintro ⟨hct, hge⟩
    obtain ⟨hlow, hat⟩ := rlow_ct hct
    have h2 : two l = ((at' l 0 % 32 * 64 + at' l 1 % 64 : Nat) : Int) := by unfold two; rw [hlow]; omega
    have hlt : at' l 0 % 32 * 64 + at' l 1 % 64 < 2048 := by omega
    generalize hc : at' l 0 % 32 * 64 + at' l 1 % 64 = c at *
    have hv : Utf8.valid (two l) = true := by rw [h2, valid_iff]; left; omega
    have hr : rb (two l) = encN c := by unfold rb; rw [if_pos hv, h2, Int.toNat_natCast]
    rw [hr, at_encN2 (by omega) (by omega)]
    refine ⟨rbeg_of (by simp) (by have := ct_lt hct; simp; omega) ?_, rfl⟩
    intro k hk
    simp at hk
    have : k = 0 ∨ k = 1 := by omega
    rcases this with rfl | rfl
    · simp only [at', List.getD, List.getElem?_cons_zero, Option.getD_some, o8_toNat]
      show at' l 0 = _; omega
    · simp only [at', List.getD, List.getElem?_cons_zero, List.getElem?_cons_succ, Option.getD_some, o8_toNat]
      show at' l 1 = _; omega
theorem t3_eq (l : Bs) (h0 : 224 ≤ at' l 0) (h1 : at' l 0 < 240) : t3 l = (ct l 1 && ct l 2 && (decide (2048 ≤ at' l 0 % 16 * 4096 + at' l 1 % 64 * 64 + at' l 2 % 64) && Utf8.valid ((at' l 0 % 16 * 4096 + at' l 1 % 64 * 64 + at' l 2 % 64 : Nat) : Int))) := by
  rw [Bool.eq_iff_iff]
  unfold t3
  simp only [Bool.and_eq_true, decide_eq_true_eq]
  constructor
  · rintro ⟨⟨hlw, hb⟩, hl⟩
    have hv := rb_pos (r := three l) (by intro e; rw [e] at hl; simp at hl)
    have hr : rb (three l) = encN (three l).toNat := by unfold rb; rw [if_pos hv]
    rw [hr] at hb hl
    rw [encN_len] at hl
    have hc1 : ¬ (three l).toNat < 2048 := by intro h; split at hl <;> simp_all
    have hc2 : (three l).toNat < 65536 := by
      rw [if_neg (by omega), if_neg hc1] at hl
      by_cases h : (three l).toNat < 65536
      · exact h
      · rw [if_neg h] at hl; omega
    rw [at_encN3 hc1 hc2] at hb
    have e1 := rbeg_at hb 1 (by simp)
    have e2 := rbeg_at hb 2 (by simp)
    simp only [at', List.getD, List.getElem?_cons_zero, List.getElem?_cons_succ, Option.getD_some, o8_toNat] at e1 e2
    have a1 : at' l 1 = (128 + (three l).toNat / 64 % 64) % 256 := e1.1
    have a2 : at' l 2 = (128 + (three l).toNat % 64) % 256 := e2.1
    have hct1 : ct l 1 = true := by
      unfold ct; simp only [Bool.and_eq_true, decide_eq_true_eq, beq_iff_eq]; exact ⟨e1.2, by omega⟩
    have hct2 : ct l 2 = true := by
      unfold ct; simp only [Bool.and_eq_true, decide_eq_true_eq, beq_iff_eq]; exact ⟨e2.2, by omega⟩
    have hl1 := (rlow_ct hct1).1
    have hl2 := (rlow_ct hct2).1
    have h3 : three l = ((at' l 0 % 16 * 4096 + at' l 1 % 64 * 64 + at' l 2 % 64 : Nat) : Int) := by unfold three; rw [hl1, hl2]; omega
    rw [← h3]
    exact ⟨⟨hct1, hct2⟩, by omega, hv⟩
  · rintro ⟨⟨hct1, hct2⟩, hge, hv⟩
    obtain ⟨hl1, hat1⟩ := rlow_ct hct1
    obtain ⟨hl2, hat2⟩ := rlow_ct hct2
    have h3 : three l = ((at' l 0 % 16 * 4096 + at' l 1 % 64 * 64 + at' l 2 % 64 : Nat) : Int) := by unfold three; rw [hl1, hl2]; omega
    have hlt : at' l 0 % 16 * 4096 + at' l 1 % 64 * 64 + at' l 2 % 64 < 65536 := by omega
    generalize hc : at' l 0 % 16 * 4096 + at' l 1 % 64 * 64 + at' l 2 % 64 = c at *
    have hr : rb (three l) = encN c := by unfold rb; rw [h3, if_pos hv, Int.toNat_natCast]
    rw [hr, at_encN3 (by omega) (by omega)]
    refine ⟨⟨by rw [hl2]; omega, rbeg_of (by simp) (by have := ct_lt hct2; simp; omega) ?_⟩, rfl⟩
    intro k hk
    simp at hk
    have : k = 0 ∨ k = 1 ∨ k = 2 := by omega
    rcases this with rfl | rfl | rfl
    · simp only [at', List.getD, List.getElem?_cons_zero, Option.getD_some, o8_toNat]
      show at' l 0 = _; omega
    · simp only [at', List.getD, List.getElem?_cons_zero, List.getElem?_cons_succ, Option.getD_some, o8_toNat]
      show at' l 1 = _; omega
    · simp only [at', List.getD, List.getElem?_cons_zero, List.getElem?_cons_succ, Option.getD_some, o8_toNat]
      show at' l 2 = _; omega
theorem t4_eq (l : Bs) (h0 : 240 ≤ at' l 0) (h1 : at' l 0 < 248) : t4 l = (ct l 1 && ct l 2 && ct l 3 && (decide (65536 ≤ at' l 0 % 8 * 262144 + at' l 1 % 64 * 4096 + at' l 2 % 64 * 64 + at' l 3 % 64) && Utf8.valid ((at' l 0 % 8 * 262144 + at' l 1 % 64 * 4096 + at' l 2 % 64 * 64 + at' l 3 % 64 : Nat) : Int))) := by
  rw [Bool.eq_iff_iff]
  unfold t4
  simp only [Bool.and_eq_true, decide_eq_true_eq]
  constructor
  · rintro ⟨⟨hlw, hb⟩, hl⟩
    have hv := rb_pos (r := four l) (by intro e; rw [e] at hl; simp at hl)
    have hr : rb (four l) = encN (four l).toNat := by unfold rb; rw [if_pos hv]
    rw [hr] at hb hl
    rw [encN_len] at hl
    have hc1 : ¬ (four l).toNat < 65536 := by intro h; repeat' split at hl
                                              all_goals simp_all
    have hv2 := (valid_iff _).1 hv
    rw [at_encN4 hc1] at hb
    have e0 := rbeg_at hb 0 (by simp)
    have e1 := rbeg_at hb 1 (by simp)
    have e2 := rbeg_at hb 2 (by simp)
    have e3 := rbeg_at hb 3 (by simp)
    simp only [at', List.getD, List.getElem?_cons_zero, List.getElem?_cons_succ, Option.getD_some, o8_toNat] at e0 e1 e2 e3
    have a1 : at' l 1 = (128 + (four l).toNat / 4096 % 64) % 256 := e1.1
    have a2 : at' l 2 = (128 + (four l).toNat / 64 % 64) % 256 := e2.1
    have a3 : at' l 3 = (128 + (four l).toNat % 64) % 256 := e3.1
    have hct1 : ct l 1 = true := by
      unfold ct; simp only [Bool.and_eq_true, decide_eq_true_eq, beq_iff_eq]; exact ⟨e1.2, by omega⟩
    have hct2 : ct l 2 = true := by
      unfold ct; simp only [Bool.and_eq_true, decide_eq_true_eq, beq_iff_eq]; exact ⟨e2.2, by omega⟩
    have hct3 : ct l 3 = true := by
      unfold ct; simp only [Bool.and_eq_true, decide_eq_true_eq, beq_iff_eq]; exact ⟨e3.2, by omega⟩
    have hl1 := (rlow_ct hct1).1
    have hl2 := (rlow_ct hct2).1
    have hl3 := (rlow_ct hct3).1
    have h3 : four l = ((at' l 0 % 8 * 262144 + at' l 1 % 64 * 4096 + at' l 2 % 64 * 64 + at' l 3 % 64 : Nat) : Int) := by unfold four; rw [hl1, hl2, hl3]; omega
    rw [← h3]
    exact ⟨⟨⟨hct1, hct2⟩, hct3⟩, by omega, hv⟩
  · rintro ⟨⟨⟨hct1, hct2⟩, hct3⟩, hge, hv⟩
    obtain ⟨hl1, hat1⟩ := rlow_ct hct1
    obtain ⟨hl2, hat2⟩ := rlow_ct hct2
    obtain ⟨hl3, hat3⟩ := rlow_ct hct3
    have h3 : four l = ((at' l 0 % 8 * 262144 + at' l 1 % 64 * 4096 + at' l 2 % 64 * 64 + at' l 3 % 64 : Nat) : Int) := by unfold four; rw [hl1, hl2, hl3]; omega
    have hv2 := (valid_iff _).1 hv
    generalize hc : at' l 0 % 8 * 262144 + at' l 1 % 64 * 4096 + at' l 2 % 64 * 64 + at' l 3 % 64 = c at *
    have hr : rb (four l) = encN c := by unfold rb; rw [h3, if_pos hv, Int.toNat_natCast]
    rw [hr, at_encN4 (by omega)]
    refine ⟨⟨by rw [hl3]; omega, rbeg_of (by simp) (by have := ct_lt hct3; simp; omega) ?_⟩, rfl⟩
    intro k hk
    simp at hk
    have : k = 0 ∨ k = 1 ∨ k = 2 ∨ k = 3 := by omega
    rcases this with rfl | rfl | rfl | rfl
    · simp only [at', List.getD, List.getElem?_cons_zero, Option.getD_some, o8_toNat]
      show at' l 0 = _; omega
    · simp only [at', List.getD, List.getElem?_cons_zero, List.getElem?_cons_succ, Option.getD_some, o8_toNat]
      show at' l 1 = _; omega
    · simp only [at', List.getD, List.getElem?_cons_zero, List.getElem?_cons_succ, Option.getD_some, o8_toNat]
      show at' l 2 = _; omega
    · simp only [at', List.getD, List.getElem?_cons_zero, List.getElem?_cons_succ, Option.getD_some, o8_toNat]
      show at' l 3 = _; omega
/-- 'dec' by the candidates: what ref.Next does. -/
theorem dec_cases (l : Bs) :
    (at' l 0 < 128 → dec l = (at' l 0, 1)) ∧
    (192 ≤ at' l 0 → at' l 0 < 224 → (if t2 l then two l = ((dec l).1 : Int) ∧ (dec l).2 = 2 else dec l = (65533, 1))) ∧
    (224 ≤ at' l 0 → at' l 0 < 240 → (if t3 l then three l = ((dec l).1 : Int) ∧ (dec l).2 = 3 else dec l = (65533, 1))) ∧
    (240 ≤ at' l 0 → at' l 0 < 248 → (if t4 l then four l = ((dec l).1 : Int) ∧ (dec l).2 = 4 else dec l = (65533, 1))) ∧
    (128 ≤ at' l 0 → at' l 0 < 192 → dec l = (65533, 1)) ∧ (248 ≤ at' l 0 → dec l = (65533, 1)) := by
  refine ⟨?_, ?_, ?_, ?_, ?_, ?_⟩
  · intro h; unfold dec; dsimp only; rw [if_pos h]
  · intro h0 h1
    have e : ∀ x, dec l = x ↔ (if (at' l 0 / 32 == 6 && ct l 1) = true then (if at' l 0 % 32 * 64 + at' l 1 % 64 ≥ 128 then (at' l 0 % 32 * 64 + at' l 1 % 64, 2) else (65533, 1)) else (65533, 1)) = x := by
      intro x; unfold dec; dsimp only
      rw [if_neg (show ¬ at' l 0 < 128 by omega)]
      have a1 : (at' l 0 / 16 == 14) = false := by simp; omega
      have a2 : (at' l 0 / 8 == 30) = false := by simp; omega
      simp [a1, a2]
    have hd := (e _).1 rfl
    have a0 : (at' l 0 / 32 == 6) = true := by simp; omega
    rw [a0, Bool.true_and] at hd
    rw [t2_eq l h0 h1]
    by_cases hct : ct l 1 = true
    · obtain ⟨hlow, _⟩ := rlow_ct hct
      rw [if_pos hct] at hd
      rw [hct, Bool.true_and]
      by_cases hge : 128 ≤ at' l 0 % 32 * 64 + at' l 1 % 64
      · rw [if_pos hge] at hd
        rw [if_pos (decide_eq_true hge), ← hd]
        refine ⟨?_, rfl⟩
        unfold two; rw [hlow]; dsimp only; omega
      · rw [if_neg hge] at hd
        rw [if_neg (by simpa using hge), ← hd]
    · rw [if_neg hct] at hd
      rw [Bool.eq_false_iff.2 hct, Bool.false_and, if_neg (by simp), ← hd]
  · intro h0 h1
    have a1 : (at' l 0 / 32 == 6) = false := by simp; omega
    have a2 : (at' l 0 / 8 == 30) = false := by simp; omega
    have a0 : (at' l 0 / 16 == 14) = true := by simp; omega
    have hd : (if (ct l 1 && ct l 2) = true then (if (decide (at' l 0 % 16 * 4096 + at' l 1 % 64 * 64 + at' l 2 % 64 ≥ 2048) && Utf8.valid ((at' l 0 % 16 * 4096 + at' l 1 % 64 * 64 + at' l 2 % 64 : Nat) : Int)) = true then (at' l 0 % 16 * 4096 + at' l 1 % 64 * 64 + at' l 2 % 64, 3) else (65533, 1)) else (65533, 1)) = dec l := by
      unfold dec; dsimp only
      rw [if_neg (show ¬ at' l 0 < 128 by omega)]
      simp only [a0, a1, a2, Bool.false_and, Bool.true_and, Bool.false_eq_true, if_false]
    rw [t3_eq l h0 h1]
    by_cases hct : (ct l 1 && ct l 2) = true
    · rw [if_pos hct] at hd
      rw [hct, Bool.true_and]
      simp only [Bool.and_eq_true] at hct
      obtain ⟨hl1, _⟩ := rlow_ct hct.1
      obtain ⟨hl2, _⟩ := rlow_ct hct.2
      split
      · rename_i hg
        rw [if_pos hg] at hd
        rw [← hd]
        refine ⟨?_, rfl⟩
        unfold three; rw [hl1, hl2]; dsimp only; omega
      · rename_i hg
        rw [if_neg hg] at hd
        rw [← hd]
    · rw [if_neg hct] at hd
      rw [Bool.eq_false_iff.2 hct, Bool.false_and, if_neg (by simp), ← hd]
  · intro h0 h1
    have a1 : (at' l 0 / 32 == 6) = false := by simp; omega
    have a2 : (at' l 0 / 16 == 14) = false := by simp; omega
    have a0 : (at' l 0 / 8 == 30) = true := by simp; omega
    have hd : (if (ct l 1 && ct l 2 && ct l 3) = true then (if (decide (at' l 0 % 8 * 262144 + at' l 1 % 64 * 4096 + at' l 2 % 64 * 64 + at' l 3 % 64 ≥ 65536) && Utf8.valid ((at' l 0 % 8 * 262144 + at' l 1 % 64 * 4096 + at' l 2 % 64 * 64 + at' l 3 % 64 : Nat) : Int)) = true then (at' l 0 % 8 * 262144 + at' l 1 % 64 * 4096 + at' l 2 % 64 * 64 + at' l 3 % 64, 4) else (65533, 1)) else (65533, 1)) = dec l := by
      unfold dec; dsimp only
      rw [if_neg (show ¬ at' l 0 < 128 by omega)]
      simp only [a0, a1, a2, Bool.false_and, Bool.true_and, Bool.false_eq_true, if_false]
    rw [t4_eq l h0 h1]
    by_cases hct : (ct l 1 && ct l 2 && ct l 3) = true
    · rw [if_pos hct] at hd
      rw [hct, Bool.true_and]
      simp only [Bool.and_eq_true] at hct
      obtain ⟨hl1, _⟩ := rlow_ct hct.1.1
      obtain ⟨hl2, _⟩ := rlow_ct hct.1.2
      obtain ⟨hl3, _⟩ := rlow_ct hct.2
      split
      · rename_i hg
        rw [if_pos hg] at hd
        rw [← hd]
        refine ⟨?_, rfl⟩
        unfold four; rw [hl1, hl2, hl3]; dsimp only; omega
      · rename_i hg
        rw [if_neg hg] at hd
        rw [← hd]
    · rw [if_neg hct] at hd
      rw [Bool.eq_false_iff.2 hct, Bool.false_and, if_neg (by simp), ← hd]
  · intro h0 h1
    have a1 : (at' l 0 / 32 == 6) = false := by simp; omega
    have a2 : (at' l 0 / 16 == 14) = false := by simp; omega
    have a0 : (at' l 0 / 8 == 30) = false := by simp; omega
    unfold dec; dsimp only
    rw [if_neg (show ¬ at' l 0 < 128 by omega)]
    simp only [a0, a1, a2, Bool.false_and, Bool.false_eq_true, if_false]
  · intro h0
    have a1 : (at' l 0 / 32 == 6) = false := by simp; omega
    have a2 : (at' l 0 / 16 == 14) = false := by simp; omega
    have a0 : (at' l 0 / 8 == 30) = false := by simp; omega
    unfold dec; dsimp only
    rw [if_neg (show ¬ at' l 0 < 128 by omega)]
    simp only [a0, a1, a2, Bool.false_and, Bool.false_eq_true, if_false]
end Go.Proofs.Ytfegchonclhjjaa
