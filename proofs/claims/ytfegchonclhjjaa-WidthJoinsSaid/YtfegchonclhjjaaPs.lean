import Derived.Test.YtfegchonclhjjaaPw
namespace Go.Proofs.Ytfegchonclhjjaa
open Go.RowKit
/-! Signs, written and read again. -/
theorem at_cons0 (x : UInt8) (l : Bs) : at' (x :: l) 0 = x.toNat := rfl
theorem at_cons1 (x y : UInt8) (l : Bs) : at' (x :: y :: l) 1 = y.toNat := rfl
theorem at_cons2 (x y z : UInt8) (l : Bs) : at' (x :: y :: z :: l) 2 = z.toNat := rfl
theorem at_cons3 (x y z u : UInt8) (l : Bs) : at' (x :: y :: z :: u :: l) 3 = u.toNat := rfl
theorem dec_enc {r : Nat} (h : Utf8.valid (r : Int) = true) (t : Bs) : dec (enc r ++ t) = (r, (enc r).length) := by
  have hv := (valid_iff _).1 h
  rw [enc_eq h]
  by_cases h1 : r < 128
  · have e : encN r = [o8 r] := by unfold encN; rw [if_pos h1]
    rw [e]
    have := (dec_cases ([o8 r] ++ t)).1
    rw [List.singleton_append, at_cons0, o8_toNat] at this
    rw [List.singleton_append, this (by omega)]
    exact Prod.ext (by dsimp only; omega) rfl
  by_cases h2 : r < 2048
  · rw [at_encN2 h1 h2]
    generalize hl : [o8 (192 + r / 64), o8 (128 + r % 64)] ++ t = l
    have a0 : at' l 0 = 192 + r / 64 := by rw [← hl]; show (o8 _).toNat = _; rw [o8_toNat]; omega
    have a1 : at' l 1 = 128 + r % 64 := by rw [← hl]; show (o8 _).toNat = _; rw [o8_toNat]; omega
    have hct : ct l 1 = true := (ct_iff l 1).2 ⟨by rw [← hl]; simp, by omega, by omega⟩
    have hd := (dec_cases l).2.1 (by omega) (by omega)
    have ht : t2 l = true := by rw [t2_eq l (by omega) (by omega), hct, Bool.true_and]; exact decide_eq_true (by omega)
    rw [if_pos ht] at hd
    have hlow := (rlow_ct hct).1
    unfold two at hd
    rw [hlow] at hd
    exact Prod.ext (by dsimp only; omega) hd.2
  by_cases h3 : r < 65536
  · rw [at_encN3 h2 h3]
    generalize hl : [o8 (224 + r / 4096), o8 (128 + r / 64 % 64), o8 (128 + r % 64)] ++ t = l
    have a0 : at' l 0 = 224 + r / 4096 := by rw [← hl]; show (o8 _).toNat = _; rw [o8_toNat]; omega
    have a1 : at' l 1 = 128 + r / 64 % 64 := by rw [← hl]; show (o8 _).toNat = _; rw [o8_toNat]; omega
    have a2 : at' l 2 = 128 + r % 64 := by rw [← hl]; show (o8 _).toNat = _; rw [o8_toNat]; omega
    have hct1 : ct l 1 = true := (ct_iff l 1).2 ⟨by rw [← hl]; simp, by omega, by omega⟩
    have hct2 : ct l 2 = true := (ct_iff l 2).2 ⟨by rw [← hl]; simp, by omega, by omega⟩
    have hval : at' l 0 % 16 * 4096 + at' l 1 % 64 * 64 + at' l 2 % 64 = r := by omega
    have hd := (dec_cases l).2.2.1 (by omega) (by omega)
    have ht : t3 l = true := by
      rw [t3_eq l (by omega) (by omega), hct1, hct2, hval, h]
      simp; omega
    rw [if_pos ht] at hd
    have hl1 := (rlow_ct hct1).1
    have hl2 := (rlow_ct hct2).1
    unfold three at hd
    rw [hl1, hl2] at hd
    exact Prod.ext (by dsimp only; omega) hd.2
  · rw [at_encN4 h3]
    generalize hl : [o8 (240 + r / 262144), o8 (128 + r / 4096 % 64), o8 (128 + r / 64 % 64), o8 (128 + r % 64)] ++ t = l
    have a0 : at' l 0 = 240 + r / 262144 := by rw [← hl]; show (o8 _).toNat = _; rw [o8_toNat]; omega
    have a1 : at' l 1 = 128 + r / 4096 % 64 := by rw [← hl]; show (o8 _).toNat = _; rw [o8_toNat]; omega
    have a2 : at' l 2 = 128 + r / 64 % 64 := by rw [← hl]; show (o8 _).toNat = _; rw [o8_toNat]; omega
    have a3 : at' l 3 = 128 + r % 64 := by rw [← hl]; show (o8 _).toNat = _; rw [o8_toNat]; omega
    have hct1 : ct l 1 = true := (ct_iff l 1).2 ⟨by rw [← hl]; simp, by omega, by omega⟩
    have hct2 : ct l 2 = true := (ct_iff l 2).2 ⟨by rw [← hl]; simp, by omega, by omega⟩
    have hct3 : ct l 3 = true := (ct_iff l 3).2 ⟨by rw [← hl]; simp, by omega, by omega⟩
    have hval : at' l 0 % 8 * 262144 + at' l 1 % 64 * 4096 + at' l 2 % 64 * 64 + at' l 3 % 64 = r := by omega
    have hd := (dec_cases l).2.2.2.1 (by omega) (by omega)
    have ht : t4 l = true := by
      rw [t4_eq l (by omega) (by omega), hct1, hct2, hct3, hval, h]
      simp; omega
    rw [if_pos ht] at hd
    have hl1 := (rlow_ct hct1).1
    have hl2 := (rlow_ct hct2).1
    have hl3 := (rlow_ct hct3).1
    unfold four at hd
    rw [hl1, hl2, hl3] at hd
    exact Prod.ext (by dsimp only; omega) hd.2
theorem enc_ne {r : Nat} (h : Utf8.valid (r : Int) = true) : enc r ≠ [] := by
  rw [enc_eq h]; intro e
  have := congrArg List.length e
  rw [encN_len] at this
  repeat' split at this
  all_goals simp at this
theorem runes_enc (rs : List Nat) (hv : ∀ r ∈ rs, Utf8.valid (r : Int) = true) (t : Bs) : runes (rs.flatMap enc ++ t) = rs ++ runes t := by
  induction rs with
  | nil => rfl
  | cons r rs ih =>
    have h := hv r (List.mem_cons_self ..)
    rw [List.flatMap_cons, List.append_assoc, runes_cons (by simp [enc_ne h]), dec_enc h, List.drop_left, ih fun x hx => hv x (List.mem_cons_of_mem _ hx)]
    rfl
theorem runes_val (l : Bs) : ∀ r ∈ runes l, Utf8.valid (r : Int) = true := by
  suffices h : ∀ n (l : Bs), ∀ r ∈ runesF n l, Utf8.valid (r : Int) = true from h _ l
  intro n
  induction n with
  | zero => intro l r h; simp [runesF] at h
  | succ n ih =>
    intro l r h
    unfold runesF at h
    split at h
    · simp at h
    · rcases List.mem_cons.1 h with h | h
      · rw [h]; exact dec_val l
      · exact ih _ r h
theorem runes_clean (l t : Bs) : runes (clean l ++ t) = runes l ++ runes t := runes_enc _ (runes_val l) t
theorem runes_clean' (l : Bs) : runes (clean l) = runes l := by
  have := runes_clean l []
  rw [List.append_nil] at this
  rw [this, runes_nil, List.append_nil]
theorem clean_clean (l : Bs) : clean (clean l) = clean l := by unfold clean; rw [show runes ((runes l).flatMap enc) = runes l from runes_clean' l]
/-- A sign's bytes are whole. -/
theorem whole_of_dec {l : Bs} (h : l ≠ []) (h1 : (dec l).2 = l.length) (h2 : 2 ≤ l.length ∨ at' l 0 < 128) : whole l = true := by
  rw [← Bool.not_eq_false, whole_iff]
  rintro (e | ⟨e, _⟩)
  · exact h e
  · by_cases hok : okS l
    · have := hok.2.1; omega
    · have := (dec_ok h).2 hok
      rcases h2 with h2 | h2
      · omega
      · have := tl_cases (at' l 0)
        rcases this with ⟨a, b, ht⟩ | ⟨a, ht⟩ | ⟨a, ht⟩ | ⟨a, b, b', ht⟩ | ⟨a, ht⟩ | ⟨a, b, ht⟩ | ⟨a, ht⟩ | ⟨a, ht⟩ <;> rw [ht] at e <;> dsimp only at e <;> omega
theorem whole_enc {r : Nat} (h : Utf8.valid (r : Int) = true) : whole (enc r) = true := by
  have hd := dec_enc h []
  rw [List.append_nil] at hd
  refine whole_of_dec (enc_ne h) (by rw [hd]) ?_
  rw [enc_eq h]
  by_cases h1 : r < 128
  · right; unfold encN; rw [if_pos h1, at_cons0, o8_toNat]; omega
  · left; rw [encN_len, if_neg h1]; split
    · omega
    · split <;> omega
/-- What dec tells does not hang on what stands behind what is whole. -/
theorem dec_app {l t : Bs} (h : whole l = true) : dec (l ++ t) = dec l := by
  have hne := whole_ne h
  have h0 : 0 < l.length := List.length_pos_iff.2 hne
  have a : ∀ k, k < l.length → at' (l ++ t) k = at' l k := fun k hk => by rw [at_app, if_pos hk]
  have cc : ∀ k, k < l.length → ct (l ++ t) k = ct l k := fun k hk => by
    rw [Bool.eq_iff_iff, ct_iff, ct_iff, a k hk, List.length_append]; omega
  have hok : okS (l ++ t) ↔ okS l := by
    have hw : ¬ (whole l = false) := by simp [h]
    rw [whole_iff] at hw
    unfold okS
    rw [a 0 h0, List.length_append]
    constructor
    · rintro ⟨k1, k2, k3, k4, k5, k6⟩
      have hlt : (tl (at' l 0)).1 < l.length := by
        refine Nat.lt_of_not_le fun hle => hw (.inr ⟨hle, fun e => ?_, fun e => ?_⟩)
        · rw [← a 1 (by omega)]; exact ⟨k3, k4⟩
        · rw [← a 2 (by omega)]; exact k5 (by omega)
      refine ⟨k1, hlt, ?_, ?_, fun e => ?_, fun e => ?_⟩
      · rw [← a 1 (by omega)]; exact k3
      · rw [← a 1 (by omega)]; exact k4
      · rw [← a 2 (by omega)]; exact k5 e
      · rw [← a 3 (by omega)]; exact k6 e
    · rintro ⟨k1, k2, k3, k4, k5, k6⟩
      refine ⟨k1, by omega, ?_, ?_, fun e => ?_, fun e => ?_⟩
      · rw [a 1 (by omega)]; exact k3
      · rw [a 1 (by omega)]; exact k4
      · rw [a 2 (by omega)]; exact k5 e
      · rw [a 3 (by omega)]; exact k6 e
  have hne2 : l ++ t ≠ [] := by simp [hne]
  by_cases ho : okS l
  · have hlen := (dec_ok hne).1 ho
    have hk : ∀ k, k < (dec l).2 → k < l.length := fun k hk => by have := dec_le hne; omega
    unfold dec
    have e1 : 2 ≤ (dec l).2 := by have := ho.1; omega
    have b1 := hk 1 (by omega)
    by_cases n2 : 2 ≤ (tl (at' l 0)).1
    · have b2 := hk 2 (by omega)
      by_cases n3 : 3 ≤ (tl (at' l 0)).1
      · have b3 := hk 3 (by omega)
        simp only [a 0 h0, a 1 b1, a 2 b2, a 3 b3, cc 1 b1, cc 2 b2, cc 3 b3]
      · have hx : at' l 0 / 8 ≠ 30 := by
          have := tl_cases (at' l 0)
          rcases this with ⟨p, q, ht⟩ | ⟨p, ht⟩ | ⟨p, ht⟩ | ⟨p, q, b', ht⟩ | ⟨p, ht⟩ | ⟨p, q, ht⟩ | ⟨p, ht⟩ | ⟨p, ht⟩ <;> rw [ht] at n2 n3 <;> dsimp only at n2 n3 <;> omega
        have hx' : (at' l 0 / 8 == 30) = false := by simpa using hx
        simp only [a 0 h0, a 1 b1, a 2 b2, cc 1 b1, cc 2 b2, hx', Bool.false_and, Bool.false_eq_true, if_false]
    · have hx : at' l 0 / 8 ≠ 30 ∧ at' l 0 / 16 ≠ 14 := by
        have := ho.1
        rcases tl_cases (at' l 0) with ⟨p, q, ht⟩ | ⟨p, ht⟩ | ⟨p, ht⟩ | ⟨p, q, b', ht⟩ | ⟨p, ht⟩ | ⟨p, q, ht⟩ | ⟨p, ht⟩ | ⟨p, ht⟩ <;> rw [ht] at n2 this <;> dsimp only at n2 this <;> omega
      have hx' : (at' l 0 / 8 == 30) = false := by simpa using hx.1
      have hy' : (at' l 0 / 16 == 14) = false := by simpa using hx.2
      simp only [a 0 h0, a 1 b1, cc 1 b1, hx', hy', Bool.false_and, Bool.false_eq_true, if_false]
  · have d1 := (dec_ok hne).2 ho
    have d2 := (dec_ok hne2).2 (fun e => ho (hok.1 e))
    have one : ∀ m : Bs, (dec m).2 = 1 → dec m = (if at' m 0 < 128 then at' m 0 else 65533, 1) := by
      intro m hm
      obtain ⟨c1, c2, c3, c4, c5, c6⟩ := dec_cases m
      by_cases x1 : at' m 0 < 128
      · rw [if_pos x1]; exact c1 x1
      rw [if_neg x1]
      by_cases x2 : at' m 0 < 192
      · exact c5 (by omega) x2
      by_cases x3 : at' m 0 < 224
      · have := c2 (by omega) x3
        split at this
        · omega
        · exact this
      by_cases x4 : at' m 0 < 240
      · have := c3 (by omega) x4
        split at this
        · omega
        · exact this
      by_cases x5 : at' m 0 < 248
      · have := c4 (by omega) x5
        split at this
        · omega
        · exact this
      exact c6 (by omega)
    rw [one _ d1, one _ d2, a 0 h0]
end Go.Proofs.Ytfegchonclhjjaa
