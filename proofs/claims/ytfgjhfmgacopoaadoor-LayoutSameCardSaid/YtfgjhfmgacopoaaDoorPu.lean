import Derived.WalkKit
namespace Go.Proofs.YtfgjhfmgacopoaaDoor
open Go.RowKit
/-! Bytes and signs, in plain Lean. -/
abbrev Bs := List UInt8
def at' (l : Bs) (k : Nat) : Nat := (l.getD k 0).toNat
def ct (l : Bs) (k : Nat) : Bool := decide (k < l.length) && at' l k / 64 == 2
/-- The first sign of bytes that are not empty, and how many bytes it takes. -/
def dec (l : Bs) : Nat × Nat :=
  let b0 := at' l 0
  if b0 < 0x80 then (b0, 1)
  else if b0 / 32 == 6 && ct l 1 then
    let c := (b0 % 32) * 64 + at' l 1 % 64
    if c ≥ 0x80 then (c, 2) else (0xFFFD, 1)
  else if b0 / 16 == 14 && ct l 1 && ct l 2 then
    let c := (b0 % 16) * 4096 + (at' l 1 % 64) * 64 + at' l 2 % 64
    if c ≥ 0x800 && Utf8.valid c then (c, 3) else (0xFFFD, 1)
  else if b0 / 8 == 30 && ct l 1 && ct l 2 && ct l 3 then
    let c := (b0 % 8) * 262144 + (at' l 1 % 64) * 4096 + (at' l 2 % 64) * 64 + at' l 3 % 64
    if c ≥ 0x10000 && Utf8.valid c then (c, 4) else (0xFFFD, 1)
  else (0xFFFD, 1)

theorem cons2 {α : Type} {a a' : α} {l l' : List α} (h : a = a') (k : l = l') : a :: l = a' :: l' := by rw [h, k]
theorem get!_list (s : ByteArray) (i : Nat) : s.get! i = s.data.toList.getD i 0 := by
  show s.data[i]! = _
  rcases s with ⟨⟨l⟩⟩
  by_cases h : i < l.length
  · simp [List.getD, h]
  · simp [List.getD, List.getElem?_eq_none (Nat.not_lt.1 h)]
    rfl
theorem decode_dec (s : ByteArray) (i : Nat) : Utf8.decode s i = dec (s.data.toList.drop i) := by
  have hg : ∀ k, (s.get! (i + k)).toNat = at' (s.data.toList.drop i) k := by
    intro k; rw [get!_list]; simp [at', List.getD, List.getElem?_drop]
  have hc : ∀ k, (decide (i + k < s.size) && at' (s.data.toList.drop i) k / 64 == 2) = ct (s.data.toList.drop i) k := by
    intro k; unfold ct
    have : (i + k < s.size) ↔ (k < (s.data.toList.drop i).length) := by
      have e : s.size = s.data.size := rfl
      simp; omega
    simp [this]
  unfold Utf8.decode dec
  simp only [hg, hc]
  rfl

theorem dec_pos (l : Bs) : 1 ≤ (dec l).2 := by
  unfold dec; dsimp only; repeat' split
  all_goals (dsimp only; omega)

theorem at_lt (l : Bs) (k : Nat) : at' l k < 256 := (l.getD k 0).toNat_lt

theorem ct_lt {l : Bs} {k : Nat} (h : ct l k = true) : k < l.length := by
  unfold ct at h; simp at h; exact h.1

theorem dec_le {l : Bs} (h : l ≠ []) : (dec l).2 ≤ l.length := by
  have h0 : 0 < l.length := List.length_pos_iff.2 h
  unfold dec; dsimp only
  repeat' split
  all_goals (dsimp only)
  all_goals first
    | omega
    | (rename_i h1 _; simp only [Bool.and_eq_true] at h1; have := ct_lt h1.2; omega)

theorem dec_le4 (l : Bs) : (dec l).2 ≤ 4 := by
  unfold dec; dsimp only; repeat' split
  all_goals (dsimp only; omega)

theorem dec_val (l : Bs) : Utf8.valid ((dec l).1 : Int) = true := by
  have h0 := at_lt l 0; have h1 := at_lt l 1
  unfold dec; dsimp only
  repeat' split
  all_goals (dsimp only)
  all_goals first
    | (rename_i h; simp only [Bool.and_eq_true] at h; exact h.2)
    | (simp [Utf8.valid]; done)
    | (simp only [Utf8.valid, Bool.or_eq_true, Bool.and_eq_true, decide_eq_true_eq]; omega)

theorem dec_take (l : Bs) {n : Nat} (h : 4 ≤ n) : dec (l.take n) = dec l := by
  have ha : ∀ k, k < 4 → at' (l.take n) k = at' l k := by
    intro k hk; unfold at'; simp [List.getD, show k < n by omega]
  have hc : ∀ k, k < 4 → ct (l.take n) k = ct l k := by
    intro k hk; unfold ct; rw [ha k hk]
    have : (k < (l.take n).length) ↔ (k < l.length) := by rw [List.length_take]; omega
    simp only [this]
  unfold dec
  simp only [ha 0 (by omega), ha 1 (by omega), ha 2 (by omega), ha 3 (by omega), hc 1 (by omega), hc 2 (by omega), hc 3 (by omega)]

/-- All signs. -/
def runesF : Nat → Bs → List Nat
  | 0, _ => []
  | n + 1, l => if l = [] then [] else (dec l).1 :: runesF n (l.drop (dec l).2)
def runes (l : Bs) : List Nat := runesF l.length l

theorem runesF_eq : ∀ (n : Nat) (l : Bs), l.length ≤ n → runesF n l = runes l := by
  intro n
  induction n with
  | zero => intro l h; have : l = [] := List.eq_nil_of_length_eq_zero (by omega); subst this; rfl
  | succ n ih =>
    intro l h
    unfold runes
    cases hl : l.length with
    | zero => have : l = [] := List.eq_nil_of_length_eq_zero hl; subst this; simp [runesF]
    | succ m =>
      have hne : l ≠ [] := by intro e; subst e; simp at hl
      have hp := dec_pos l
      simp only [runesF, hne, if_false]
      rw [ih _ (by simp; omega)]
      have key : ∀ m (l' : Bs), l'.length ≤ m → m ≤ n → runesF m l' = runes l' := by
        intro m l' h1 h2
        have : ∀ (a : Nat) (x : Bs), x.length ≤ a → runesF a x = runesF (a + 1) x := by
          intro a
          induction a with
          | zero => intro x hx; have : x = [] := List.eq_nil_of_length_eq_zero (by omega); subst this; rfl
          | succ a iha =>
            intro x hx
            by_cases hx0 : x = []
            · subst hx0; rfl
            · have := dec_pos x
              rw [show runesF (a + 1) x = (dec x).1 :: runesF a (x.drop (dec x).2) by simp [runesF, hx0], show runesF (a + 1 + 1) x = (dec x).1 :: runesF (a + 1) (x.drop (dec x).2) by simp [runesF, hx0]]
              rw [iha _ (by simp; omega)]
        have mono : ∀ d, runesF l'.length l' = runesF (l'.length + d) l' := by
          intro d
          induction d with
          | zero => rfl
          | succ d ihd => rw [ihd, this (l'.length + d) l' (by omega)]; rfl
        obtain ⟨d, rfl⟩ : ∃ d, m = l'.length + d := ⟨m - l'.length, by omega⟩
        exact (mono d).symm
      rw [key m _ (by simp; omega) (by omega)]

theorem runes_nil : runes [] = [] := rfl
theorem runes_cons {l : Bs} (h : l ≠ []) : runes l = (dec l).1 :: runes (l.drop (dec l).2) := by
  have hl : 0 < l.length := List.length_pos_iff.2 h
  obtain ⟨n, hn⟩ : ∃ n, l.length = n + 1 := ⟨l.length - 1, by omega⟩
  have hp := dec_pos l
  unfold runes
  rw [hn, runesF, if_neg h, runesF_eq n _ (by simp; omega)]
  rfl
theorem runes_length (l : Bs) : (runes l).length ≤ l.length := by
  suffices h : ∀ n (l : Bs), (runesF n l).length ≤ l.length from h _ l
  intro n
  induction n with
  | zero => intro l; simp [runesF]
  | succ n ih =>
    intro l
    unfold runesF
    split
    · simp
    · rename_i h
      have h0 : 0 < l.length := List.length_pos_iff.2 h
      have := dec_pos l
      have := ih (l.drop (dec l).2)
      simp at this ⊢
      omega
/-- The bytes of one sign, as the model has them. -/
def bl (s : ByteArray) : Bs := s.data.toList
def enc (r : Nat) : Bs := bl (Utf8.encode (r : Int))
def clean (l : Bs) : Bs := (runes l).flatMap enc
/-- What may be behind a first byte: how many, and the second one's least, and greatest. -/
def tl (x : Nat) : Nat × Nat × Nat :=
  if 194 ≤ x ∧ x ≤ 223 then (1, 128, 191)
  else if x = 224 then (2, 160, 191)
  else if x = 237 then (2, 128, 159)
  else if 225 ≤ x ∧ x ≤ 239 then (2, 128, 191)
  else if x = 240 then (3, 144, 191)
  else if 241 ≤ x ∧ x ≤ 243 then (3, 128, 191)
  else if x = 244 then (3, 128, 143)
  else (0, 0, 0)
def wk (l : Bs) (n : Nat) : Nat → Nat → Nat → Nat → Bool
  | 0, _, _, _ => true
  | f + 1, k, lo, hi => if k ≤ n then (if l.length ≤ k then false else if at' l k < lo ∨ hi < at' l k then true else wk l n f (k + 1) 128 191) else true
/-- Can nothing behind change the first sign? -/
def whole (l : Bs) : Bool := if l = [] then false else wk l (tl (at' l 0)).1 (tl (at' l 0)).1 1 (tl (at' l 0)).2.1 (tl (at' l 0)).2.2
theorem tl_le (x : Nat) : (tl x).1 ≤ 3 ∧ (tl x).2.1 ≤ 191 ∧ (tl x).2.2 ≤ 191 := by
  unfold tl
  repeat' split
  all_goals (dsimp only; omega)
/-- What is told while what waits is whole, and what waits then. -/
def drainF : Nat → Bs → List Nat × Bs
  | 0, l => ([], l)
  | n + 1, l => if whole l then ((dec l).1 :: (drainF n (l.drop (dec l).2)).1, (drainF n (l.drop (dec l).2)).2) else ([], l)
def drain (l : Bs) : List Nat × Bs := drainF l.length l
theorem whole_nil : whole [] = false := rfl
theorem whole_ne {l : Bs} (h : whole l = true) : l ≠ [] := by intro e; subst e; cases h
theorem drainF_succ : ∀ (n : Nat) (l : Bs), l.length ≤ n → drainF (n + 1) l = drainF n l := by
  intro n
  induction n with
  | zero => intro l h; have : l = [] := List.eq_nil_of_length_eq_zero (by omega); subst this; simp [drainF, whole_nil]
  | succ n ih =>
    intro l h
    by_cases hw : whole l = true
    · have := dec_pos l
      rw [show drainF (n + 1 + 1) l = ((dec l).1 :: (drainF (n + 1) (l.drop (dec l).2)).1, (drainF (n + 1) (l.drop (dec l).2)).2) by rw [drainF, if_pos hw],
        show drainF (n + 1) l = ((dec l).1 :: (drainF n (l.drop (dec l).2)).1, (drainF n (l.drop (dec l).2)).2) by rw [drainF, if_pos hw], ih _ (by simp; omega)]
    · rw [drainF, if_neg hw, drainF, if_neg hw]
theorem drainF_eq (n : Nat) (l : Bs) (h : l.length ≤ n) : drainF n l = drain l := by
  obtain ⟨d, rfl⟩ : ∃ d, n = l.length + d := ⟨n - l.length, by omega⟩
  induction d with
  | zero => rfl
  | succ d ih => rw [← Nat.add_assoc, drainF_succ _ _ (by omega)]; exact ih (by omega)
theorem drain_whole {l : Bs} (h : whole l = true) : drain l = ((dec l).1 :: (drain (l.drop (dec l).2)).1, (drain (l.drop (dec l).2)).2) := by
  have h0 : 0 < l.length := List.length_pos_iff.2 (whole_ne h)
  obtain ⟨n, hn⟩ : ∃ n, l.length = n + 1 := ⟨l.length - 1, by omega⟩
  have := dec_pos l
  have e := drainF_eq n (l.drop (dec l).2) (by simp; omega)
  rw [← e]
  unfold drain
  rw [hn, drainF, if_pos h]
theorem drain_not {l : Bs} (h : whole l = false) : drain l = ([], l) := by
  cases l with
  | nil => rfl
  | cons x t => unfold drain; rw [List.length_cons, drainF]; simp [h]
theorem drain_len (l : Bs) : (drain l).1.length ≤ l.length ∧ (drain l).2.length ≤ l.length := by
  suffices h : ∀ n (l : Bs), (drainF n l).1.length ≤ l.length ∧ (drainF n l).2.length ≤ l.length from h _ l
  intro n
  induction n with
  | zero => intro l; simp [drainF]
  | succ n ih =>
    intro l
    unfold drainF
    split
    · rename_i h
      have h0 : 0 < l.length := List.length_pos_iff.2 (whole_ne h)
      have := dec_pos l
      have := ih (l.drop (dec l).2)
      simp at this ⊢
      omega
    · simp
end Go.Proofs.YtfgjhfmgacopoaaDoor
namespace Go.Proofs.YtfgjhfmgacopoaaDoor
open Go.RowKit
/-! The reference's words of layer 1, in plain Lean. -/
def o8 (n : Nat) : UInt8 := UInt8.ofNat n
theorem o8_toNat (n : Nat) : (o8 n).toNat = n % 256 := by simp [o8]
def encN (c : Nat) : Bs :=
  if c < 128 then [o8 c]
  else if c < 2048 then [o8 (192 + c / 64), o8 (128 + c % 64)]
  else if c < 65536 then [o8 (224 + c / 4096), o8 (128 + c / 64 % 64), o8 (128 + c % 64)]
  else [o8 (240 + c / 262144), o8 (128 + c / 4096 % 64), o8 (128 + c / 64 % 64), o8 (128 + c % 64)]
theorem bl_encode (i : Int) (h : Utf8.valid i = true) : bl (Utf8.encode i) = encN i.toNat := by
  unfold Utf8.encode encN bl o8
  simp only [h, if_true]
  split
  · rfl
  · split
    · rfl
    · split <;> rfl
theorem enc_eq {r : Nat} (h : Utf8.valid (r : Int) = true) : enc r = encN r := by
  have := bl_encode (r : Int) h
  rw [Int.toNat_natCast] at this
  exact this
theorem valid_iff (r : Int) : Utf8.valid r = true ↔ (0 ≤ r ∧ r < 55296) ∨ (57344 ≤ r ∧ r ≤ 1114111) := by
  simp only [Utf8.valid, Bool.or_eq_true, Bool.and_eq_true, decide_eq_true_eq]
/-- ref.Bytes. -/
def rb (r : Int) : Bs := if Utf8.valid r = true then encN r.toNat else []
/-- ref.low. -/
def rlow (l : Bs) (k : Nat) : Int := if k < l.length ∧ 128 ≤ at' l k ∧ at' l k ≤ 191 then (at' l k : Int) - 128 else -1
theorem rlow_ct {l : Bs} {k : Nat} (h : ct l k = true) : rlow l k = ((at' l k % 64 : Nat) : Int) ∧ at' l k = 128 + at' l k % 64 := by
  unfold ct at h
  simp only [Bool.and_eq_true, decide_eq_true_eq, beq_iff_eq] at h
  have h2 : 128 ≤ at' l k ∧ at' l k ≤ 191 := by omega
  unfold rlow
  rw [if_pos ⟨h.1, h2⟩]
  omega
theorem rlow_not {l : Bs} {k : Nat} (h : ct l k = false) : rlow l k = -1 := by
  unfold ct at h
  simp only [Bool.and_eq_false_iff, decide_eq_false_iff_not, beq_eq_false_iff_ne] at h
  unfold rlow
  rw [if_neg]
  rintro ⟨a, b, c⟩
  rcases h with h | h
  · exact h a
  · omega
theorem ct_mono {l : Bs} {k : Nat} (h : ct l k = true) : k < l.length := ct_lt h
/-- ref.begins. -/
def rbeg (l p : Bs) : Bool := decide (p ≠ []) && decide (l.take p.length = p)
theorem rbeg_at {l p : Bs} (h : rbeg l p = true) (k : Nat) (hk : k < p.length) : at' l k = at' p k ∧ k < l.length := by
  unfold rbeg at h
  simp only [Bool.and_eq_true, decide_eq_true_eq] at h
  have hl : p.length ≤ l.length := by
    have := congrArg List.length h.2
    rw [List.length_take] at this; omega
  refine ⟨?_, by omega⟩
  have e : at' (l.take p.length) k = at' l k := by unfold at'; simp [List.getD, hk]
  rw [← e, h.2]
theorem rbeg_of {l p : Bs} (h0 : p ≠ []) (hl : p.length ≤ l.length) (h : ∀ k, k < p.length → at' l k = at' p k) : rbeg l p = true := by
  unfold rbeg
  simp only [Bool.and_eq_true, decide_eq_true_eq]
  refine ⟨h0, ?_⟩
  apply List.ext_getElem
  · rw [List.length_take]; omega
  · intro k h1 h2
    have := h k h2
    unfold at' at this
    rw [List.getElem_take]
    simp [List.getD, h2, show k < l.length by omega] at this
    exact UInt8.toNat_inj.1 this
/-- The three candidates. -/
def two (l : Bs) : Int := 64 * ((at' l 0 : Int) - 192) + rlow l 1
def three (l : Bs) : Int := 4096 * ((at' l 0 : Int) - 224) + 64 * rlow l 1 + rlow l 2
def four (l : Bs) : Int := 262144 * ((at' l 0 : Int) - 240) + 4096 * rlow l 1 + 64 * rlow l 2 + rlow l 3
def t2 (l : Bs) : Bool := rbeg l (rb (two l)) && decide ((rb (two l)).length = 2)
def t3 (l : Bs) : Bool := decide (0 ≤ rlow l 2) && rbeg l (rb (three l)) && decide ((rb (three l)).length = 3)
def t4 (l : Bs) : Bool := decide (0 ≤ rlow l 3) && rbeg l (rb (four l)) && decide ((rb (four l)).length = 4)
theorem encN_len (c : Nat) : (encN c).length = if c < 128 then 1 else if c < 2048 then 2 else if c < 65536 then 3 else 4 := by
  unfold encN; repeat' split
  all_goals rfl
theorem at_encN2 {c : Nat} (h1 : ¬ c < 128) (h2 : c < 2048) : encN c = [o8 (192 + c / 64), o8 (128 + c % 64)] := by unfold encN; rw [if_neg h1, if_pos h2]
theorem at_encN3 {c : Nat} (h1 : ¬ c < 2048) (h2 : c < 65536) : encN c = [o8 (224 + c / 4096), o8 (128 + c / 64 % 64), o8 (128 + c % 64)] := by unfold encN; rw [if_neg (by omega), if_neg h1, if_pos h2]
theorem at_encN4 {c : Nat} (h1 : ¬ c < 65536) : encN c = [o8 (240 + c / 262144), o8 (128 + c / 4096 % 64), o8 (128 + c / 64 % 64), o8 (128 + c % 64)] := by unfold encN; rw [if_neg (by omega), if_neg (by omega), if_neg h1]
theorem rb_pos {r : Int} (h : rb r ≠ []) : Utf8.valid r = true := by
  unfold rb at h; split at h
  · assumption
  · exact absurd rfl h
theorem t2_eq (l : Bs) (h0 : 192 ≤ at' l 0) (h1 : at' l 0 < 224) : t2 l = (ct l 1 && decide (128 ≤ at' l 0 % 32 * 64 + at' l 1 % 64)) := by
  rw [Bool.eq_iff_iff]
  unfold t2
  simp only [Bool.and_eq_true, decide_eq_true_eq]
  constructor
  · rintro ⟨hb, hl⟩
    have hv := rb_pos (r := two l) (by intro e; rw [e] at hl; simp at hl)
    have hr : rb (two l) = encN (two l).toNat := by unfold rb; rw [if_pos hv]
    rw [hr] at hb hl
    rw [encN_len] at hl
    have hc1 : ¬ (two l).toNat < 128 := by intro h; rw [if_pos h] at hl; omega
    have hc2 : (two l).toNat < 2048 := by
      rw [if_neg hc1] at hl
      by_cases h : (two l).toNat < 2048
      · exact h
      · rw [if_neg h] at hl; split at hl <;> omega
    rw [at_encN2 hc1 hc2] at hb
    have e0 := (rbeg_at hb 0 (by simp)).1
    have e1 := rbeg_at hb 1 (by simp)
    simp only [at', List.getD, List.getElem?_cons_zero, List.getElem?_cons_succ, Option.getD_some, o8_toNat] at e0 e1
    have a0 : at' l 0 = (192 + (two l).toNat / 64) % 256 := e0
    have a1 : at' l 1 = (128 + (two l).toNat % 64) % 256 := e1.1
    have hct : ct l 1 = true := by
      unfold ct; simp only [Bool.and_eq_true, decide_eq_true_eq, beq_iff_eq]; exact ⟨e1.2, by omega⟩
    refine ⟨hct, ?_⟩
    have hlow := (rlow_ct hct).1
    unfold two at hc1
    rw [hlow] at hc1
    omega
  · rintro ⟨hct, hge⟩
    obtain ⟨hlow, hat⟩ := rlow_ct hct
    have h2 : two l = ((at' l 0 % 32 * 64 + at' l 1 % 64 : Nat) : Int) := by unfold two; rw [hlow]; omega
    have hlt : at' l 0 % 32 * 64 + at' l 1 % 64 < 2048 := by omega
    generalize hc : at' l 0 % 32 * 64 + at' l 1 % 64 = c at *
    have hv : Utf8.valid (two l) = true := by rw [h2, valid_iff]; left; omega
    have hr : rb (two l) = encN c := by unfold rb; rw [if_pos hv, h2, Int.toNat_natCast]
    rw [hr, at_encN2 (by omega) (by omega)]
    refine ⟨rbeg_of (by simp) (by have := ct_lt hct; simp; omega) ?_, rfl⟩
    intro k hk
    simp at hk
    have : k = 0 ∨ k = 1 := by omega
    rcases this with rfl | rfl
    · simp only [at', List.getD, List.getElem?_cons_zero, Option.getD_some, o8_toNat]
      show at' l 0 = _; omega
    · simp only [at', List.getD, List.getElem?_cons_zero, List.getElem?_cons_succ, Option.getD_some, o8_toNat]
      show at' l 1 = _; omega
theorem t3_eq (l : Bs) (h0 : 224 ≤ at' l 0) (h1 : at' l 0 < 240) : t3 l = (ct l 1 && ct l 2 && (decide (2048 ≤ at' l 0 % 16 * 4096 + at' l 1 % 64 * 64 + at' l 2 % 64) && Utf8.valid ((at' l 0 % 16 * 4096 + at' l 1 % 64 * 64 + at' l 2 % 64 : Nat) : Int))) := by
  rw [Bool.eq_iff_iff]
  unfold t3
  simp only [Bool.and_eq_true, decide_eq_true_eq]
  constructor
  · rintro ⟨⟨hlw, hb⟩, hl⟩
    have hv := rb_pos (r := three l) (by intro e; rw [e] at hl; simp at hl)
    have hr : rb (three l) = encN (three l).toNat := by unfold rb; rw [if_pos hv]
    rw [hr] at hb hl
    rw [encN_len] at hl
    have hc1 : ¬ (three l).toNat < 2048 := by intro h; split at hl <;> simp_all
    have hc2 : (three l).toNat < 65536 := by
      rw [if_neg (by omega), if_neg hc1] at hl
      by_cases h : (three l).toNat < 65536
      · exact h
      · rw [if_neg h] at hl; omega
    rw [at_encN3 hc1 hc2] at hb
    have e1 := rbeg_at hb 1 (by simp)
    have e2 := rbeg_at hb 2 (by simp)
    simp only [at', List.getD, List.getElem?_cons_zero, List.getElem?_cons_succ, Option.getD_some, o8_toNat] at e1 e2
    have a1 : at' l 1 = (128 + (three l).toNat / 64 % 64) % 256 := e1.1
    have a2 : at' l 2 = (128 + (three l).toNat % 64) % 256 := e2.1
    have hct1 : ct l 1 = true := by
      unfold ct; simp only [Bool.and_eq_true, decide_eq_true_eq, beq_iff_eq]; exact ⟨e1.2, by omega⟩
    have hct2 : ct l 2 = true := by
      unfold ct; simp only [Bool.and_eq_true, decide_eq_true_eq, beq_iff_eq]; exact ⟨e2.2, by omega⟩
    have hl1 := (rlow_ct hct1).1
    have hl2 := (rlow_ct hct2).1
    have h3 : three l = ((at' l 0 % 16 * 4096 + at' l 1 % 64 * 64 + at' l 2 % 64 : Nat) : Int) := by unfold three; rw [hl1, hl2]; omega
    rw [← h3]
    exact ⟨⟨hct1, hct2⟩, by omega, hv⟩
  · rintro ⟨⟨hct1, hct2⟩, hge, hv⟩
    obtain ⟨hl1, hat1⟩ := rlow_ct hct1
    obtain ⟨hl2, hat2⟩ := rlow_ct hct2
    have h3 : three l = ((at' l 0 % 16 * 4096 + at' l 1 % 64 * 64 + at' l 2 % 64 : Nat) : Int) := by unfold three; rw [hl1, hl2]; omega
    have hlt : at' l 0 % 16 * 4096 + at' l 1 % 64 * 64 + at' l 2 % 64 < 65536 := by omega
    generalize hc : at' l 0 % 16 * 4096 + at' l 1 % 64 * 64 + at' l 2 % 64 = c at *
    have hr : rb (three l) = encN c := by unfold rb; rw [h3, if_pos hv, Int.toNat_natCast]
    rw [hr, at_encN3 (by omega) (by omega)]
    refine ⟨⟨by rw [hl2]; omega, rbeg_of (by simp) (by have := ct_lt hct2; simp; omega) ?_⟩, rfl⟩
    intro k hk
    simp at hk
    have : k = 0 ∨ k = 1 ∨ k = 2 := by omega
    rcases this with rfl | rfl | rfl
    · simp only [at', List.getD, List.getElem?_cons_zero, Option.getD_some, o8_toNat]
      show at' l 0 = _; omega
    · simp only [at', List.getD, List.getElem?_cons_zero, List.getElem?_cons_succ, Option.getD_some, o8_toNat]
      show at' l 1 = _; omega
    · simp only [at', List.getD, List.getElem?_cons_zero, List.getElem?_cons_succ, Option.getD_some, o8_toNat]
      show at' l 2 = _; omega
theorem t4_eq (l : Bs) (h0 : 240 ≤ at' l 0) (h1 : at' l 0 < 248) : t4 l = (ct l 1 && ct l 2 && ct l 3 && (decide (65536 ≤ at' l 0 % 8 * 262144 + at' l 1 % 64 * 4096 + at' l 2 % 64 * 64 + at' l 3 % 64) && Utf8.valid ((at' l 0 % 8 * 262144 + at' l 1 % 64 * 4096 + at' l 2 % 64 * 64 + at' l 3 % 64 : Nat) : Int))) := by
  rw [Bool.eq_iff_iff]
  unfold t4
  simp only [Bool.and_eq_true, decide_eq_true_eq]
  constructor
  · rintro ⟨⟨hlw, hb⟩, hl⟩
    have hv := rb_pos (r := four l) (by intro e; rw [e] at hl; simp at hl)
    have hr : rb (four l) = encN (four l).toNat := by unfold rb; rw [if_pos hv]
    rw [hr] at hb hl
    rw [encN_len] at hl
    have hc1 : ¬ (four l).toNat < 65536 := by intro h; repeat' split at hl
                                              all_goals simp_all
    have hv2 := (valid_iff _).1 hv
    rw [at_encN4 hc1] at hb
    have e0 := rbeg_at hb 0 (by simp)
    have e1 := rbeg_at hb 1 (by simp)
    have e2 := rbeg_at hb 2 (by simp)
    have e3 := rbeg_at hb 3 (by simp)
    simp only [at', List.getD, List.getElem?_cons_zero, List.getElem?_cons_succ, Option.getD_some, o8_toNat] at e0 e1 e2 e3
    have a1 : at' l 1 = (128 + (four l).toNat / 4096 % 64) % 256 := e1.1
    have a2 : at' l 2 = (128 + (four l).toNat / 64 % 64) % 256 := e2.1
    have a3 : at' l 3 = (128 + (four l).toNat % 64) % 256 := e3.1
    have hct1 : ct l 1 = true := by
      unfold ct; simp only [Bool.and_eq_true, decide_eq_true_eq, beq_iff_eq]; exact ⟨e1.2, by omega⟩
    have hct2 : ct l 2 = true := by
      unfold ct; simp only [Bool.and_eq_true, decide_eq_true_eq, beq_iff_eq]; exact ⟨e2.2, by omega⟩
    have hct3 : ct l 3 = true := by
      unfold ct; simp only [Bool.and_eq_true, decide_eq_true_eq, beq_iff_eq]; exact ⟨e3.2, by omega⟩
    have hl1 := (rlow_ct hct1).1
    have hl2 := (rlow_ct hct2).1
    have hl3 := (rlow_ct hct3).1
    have h3 : four l = ((at' l 0 % 8 * 262144 + at' l 1 % 64 * 4096 + at' l 2 % 64 * 64 + at' l 3 % 64 : Nat) : Int) := by unfold four; rw [hl1, hl2, hl3]; omega
    rw [← h3]
    exact ⟨⟨⟨hct1, hct2⟩, hct3⟩, by omega, hv⟩
  · rintro ⟨⟨⟨hct1, hct2⟩, hct3⟩, hge, hv⟩
    obtain ⟨hl1, hat1⟩ := rlow_ct hct1
    obtain ⟨hl2, hat2⟩ := rlow_ct hct2
    obtain ⟨hl3, hat3⟩ := rlow_ct hct3
    have h3 : four l = ((at' l 0 % 8 * 262144 + at' l 1 % 64 * 4096 + at' l 2 % 64 * 64 + at' l 3 % 64 : Nat) : Int) := by unfold four; rw [hl1, hl2, hl3]; omega
    have hv2 := (valid_iff _).1 hv
    generalize hc : at' l 0 % 8 * 262144 + at' l 1 % 64 * 4096 + at' l 2 % 64 * 64 + at' l 3 % 64 = c at *
    have hr : rb (four l) = encN c := by unfold rb; rw [h3, if_pos hv, Int.toNat_natCast]
    rw [hr, at_encN4 (by omega)]
    refine ⟨⟨by rw [hl3]; omega, rbeg_of (by simp) (by have := ct_lt hct3; simp; omega) ?_⟩, rfl⟩
    intro k hk
    simp at hk
    have : k = 0 ∨ k = 1 ∨ k = 2 ∨ k = 3 := by omega
    rcases this with rfl | rfl | rfl | rfl
    · simp only [at', List.getD, List.getElem?_cons_zero, Option.getD_some, o8_toNat]
      show at' l 0 = _; omega
    · simp only [at', List.getD, List.getElem?_cons_zero, List.getElem?_cons_succ, Option.getD_some, o8_toNat]
      show at' l 1 = _; omega
    · simp only [at', List.getD, List.getElem?_cons_zero, List.getElem?_cons_succ, Option.getD_some, o8_toNat]
      show at' l 2 = _; omega
    · simp only [at', List.getD, List.getElem?_cons_zero, List.getElem?_cons_succ, Option.getD_some, o8_toNat]
      show at' l 3 = _; omega
/-- 'dec' by the candidates: what ref.Next does. -/
theorem dec_cases (l : Bs) :
    (at' l 0 < 128 → dec l = (at' l 0, 1)) ∧
    (192 ≤ at' l 0 → at' l 0 < 224 → (if t2 l then two l = ((dec l).1 : Int) ∧ (dec l).2 = 2 else dec l = (65533, 1))) ∧
    (224 ≤ at' l 0 → at' l 0 < 240 → (if t3 l then three l = ((dec l).1 : Int) ∧ (dec l).2 = 3 else dec l = (65533, 1))) ∧
    (240 ≤ at' l 0 → at' l 0 < 248 → (if t4 l then four l = ((dec l).1 : Int) ∧ (dec l).2 = 4 else dec l = (65533, 1))) ∧
    (128 ≤ at' l 0 → at' l 0 < 192 → dec l = (65533, 1)) ∧ (248 ≤ at' l 0 → dec l = (65533, 1)) := by
  refine ⟨?_, ?_, ?_, ?_, ?_, ?_⟩
  · intro h; unfold dec; dsimp only; rw [if_pos h]
  · intro h0 h1
    have e : ∀ x, dec l = x ↔ (if (at' l 0 / 32 == 6 && ct l 1) = true then (if at' l 0 % 32 * 64 + at' l 1 % 64 ≥ 128 then (at' l 0 % 32 * 64 + at' l 1 % 64, 2) else (65533, 1)) else (65533, 1)) = x := by
      intro x; unfold dec; dsimp only
      rw [if_neg (show ¬ at' l 0 < 128 by omega)]
      have a1 : (at' l 0 / 16 == 14) = false := by simp; omega
      have a2 : (at' l 0 / 8 == 30) = false := by simp; omega
      simp [a1, a2]
    have hd := (e _).1 rfl
    have a0 : (at' l 0 / 32 == 6) = true := by simp; omega
    rw [a0, Bool.true_and] at hd
    rw [t2_eq l h0 h1]
    by_cases hct : ct l 1 = true
    · obtain ⟨hlow, _⟩ := rlow_ct hct
      rw [if_pos hct] at hd
      rw [hct, Bool.true_and]
      by_cases hge : 128 ≤ at' l 0 % 32 * 64 + at' l 1 % 64
      · rw [if_pos hge] at hd
        rw [if_pos (decide_eq_true hge), ← hd]
        refine ⟨?_, rfl⟩
        unfold two; rw [hlow]; dsimp only; omega
      · rw [if_neg hge] at hd
        rw [if_neg (by simpa using hge), ← hd]
    · rw [if_neg hct] at hd
      rw [Bool.eq_false_iff.2 hct, Bool.false_and, if_neg (by simp), ← hd]
  · intro h0 h1
    have a1 : (at' l 0 / 32 == 6) = false := by simp; omega
    have a2 : (at' l 0 / 8 == 30) = false := by simp; omega
    have a0 : (at' l 0 / 16 == 14) = true := by simp; omega
    have hd : (if (ct l 1 && ct l 2) = true then (if (decide (at' l 0 % 16 * 4096 + at' l 1 % 64 * 64 + at' l 2 % 64 ≥ 2048) && Utf8.valid ((at' l 0 % 16 * 4096 + at' l 1 % 64 * 64 + at' l 2 % 64 : Nat) : Int)) = true then (at' l 0 % 16 * 4096 + at' l 1 % 64 * 64 + at' l 2 % 64, 3) else (65533, 1)) else (65533, 1)) = dec l := by
      unfold dec; dsimp only
      rw [if_neg (show ¬ at' l 0 < 128 by omega)]
      simp only [a0, a1, a2, Bool.false_and, Bool.true_and, Bool.false_eq_true, if_false]
    rw [t3_eq l h0 h1]
    by_cases hct : (ct l 1 && ct l 2) = true
    · rw [if_pos hct] at hd
      rw [hct, Bool.true_and]
      simp only [Bool.and_eq_true] at hct
      obtain ⟨hl1, _⟩ := rlow_ct hct.1
      obtain ⟨hl2, _⟩ := rlow_ct hct.2
      split
      · rename_i hg
        rw [if_pos hg] at hd
        rw [← hd]
        refine ⟨?_, rfl⟩
        unfold three; rw [hl1, hl2]; dsimp only; omega
      · rename_i hg
        rw [if_neg hg] at hd
        rw [← hd]
    · rw [if_neg hct] at hd
      rw [Bool.eq_false_iff.2 hct, Bool.false_and, if_neg (by simp), ← hd]
  · intro h0 h1
    have a1 : (at' l 0 / 32 == 6) = false := by simp; omega
    have a2 : (at' l 0 / 16 == 14) = false := by simp; omega
    have a0 : (at' l 0 / 8 == 30) = true := by simp; omega
    have hd : (if (ct l 1 && ct l 2 && ct l 3) = true then (if (decide (at' l 0 % 8 * 262144 + at' l 1 % 64 * 4096 + at' l 2 % 64 * 64 + at' l 3 % 64 ≥ 65536) && Utf8.valid ((at' l 0 % 8 * 262144 + at' l 1 % 64 * 4096 + at' l 2 % 64 * 64 + at' l 3 % 64 : Nat) : Int)) = true then (at' l 0 % 8 * 262144 + at' l 1 % 64 * 4096 + at' l 2 % 64 * 64 + at' l 3 % 64, 4) else (65533, 1)) else (65533, 1)) = dec l := by
      unfold dec; dsimp only
      rw [if_neg (show ¬ at' l 0 < 128 by omega)]
      simp only [a0, a1, a2, Bool.false_and, Bool.true_and, Bool.false_eq_true, if_false]
    rw [t4_eq l h0 h1]
    by_cases hct : (ct l 1 && ct l 2 && ct l 3) = true
    · rw [if_pos hct] at hd
      rw [hct, Bool.true_and]
      simp only [Bool.and_eq_true] at hct
      obtain ⟨hl1, _⟩ := rlow_ct hct.1.1
      obtain ⟨hl2, _⟩ := rlow_ct hct.1.2
      obtain ⟨hl3, _⟩ := rlow_ct hct.2
      split
      · rename_i hg
        rw [if_pos hg] at hd
        rw [← hd]
        refine ⟨?_, rfl⟩
        unfold four; rw [hl1, hl2, hl3]; dsimp only; omega
      · rename_i hg
        rw [if_neg hg] at hd
        rw [← hd]
    · rw [if_neg hct] at hd
      rw [Bool.eq_false_iff.2 hct, Bool.false_and, if_neg (by simp), ← hd]
  · intro h0 h1
    have a1 : (at' l 0 / 32 == 6) = false := by simp; omega
    have a2 : (at' l 0 / 16 == 14) = false := by simp; omega
    have a0 : (at' l 0 / 8 == 30) = false := by simp; omega
    unfold dec; dsimp only
    rw [if_neg (show ¬ at' l 0 < 128 by omega)]
    simp only [a0, a1, a2, Bool.false_and, Bool.false_eq_true, if_false]
  · intro h0
    have a1 : (at' l 0 / 32 == 6) = false := by simp; omega
    have a2 : (at' l 0 / 16 == 14) = false := by simp; omega
    have a0 : (at' l 0 / 8 == 30) = false := by simp; omega
    unfold dec; dsimp only
    rw [if_neg (show ¬ at' l 0 < 128 by omega)]
    simp only [a0, a1, a2, Bool.false_and, Bool.false_eq_true, if_false]
end Go.Proofs.YtfgjhfmgacopoaaDoor
namespace Go.Proofs.YtfgjhfmgacopoaaDoor
open Go.RowKit
/-! When nothing behind can change the first sign. -/
theorem ct_iff (l : Bs) (k : Nat) : ct l k = true ↔ k < l.length ∧ 128 ≤ at' l k ∧ at' l k ≤ 191 := by
  unfold ct
  simp only [Bool.and_eq_true, decide_eq_true_eq, beq_iff_eq]
  omega
/-- The bytes of a sign of more than one stand at the beginning. -/
def okS (l : Bs) : Prop := 1 ≤ (tl (at' l 0)).1 ∧ (tl (at' l 0)).1 < l.length ∧ (tl (at' l 0)).2.1 ≤ at' l 1 ∧ at' l 1 ≤ (tl (at' l 0)).2.2 ∧
  (2 ≤ (tl (at' l 0)).1 → 128 ≤ at' l 2 ∧ at' l 2 ≤ 191) ∧ (3 ≤ (tl (at' l 0)).1 → 128 ≤ at' l 3 ∧ at' l 3 ≤ 191)
theorem tl_cases (x : Nat) : (194 ≤ x ∧ x ≤ 223 ∧ tl x = (1, 128, 191)) ∨ (x = 224 ∧ tl x = (2, 160, 191)) ∨ (x = 237 ∧ tl x = (2, 128, 159)) ∨
    (225 ≤ x ∧ x ≤ 239 ∧ x ≠ 237 ∧ tl x = (2, 128, 191)) ∨ (x = 240 ∧ tl x = (3, 144, 191)) ∨ (241 ≤ x ∧ x ≤ 243 ∧ tl x = (3, 128, 191)) ∨ (x = 244 ∧ tl x = (3, 128, 143)) ∨
    ((x < 194 ∨ 244 < x) ∧ tl x = (0, 0, 0)) := by
  unfold tl
  repeat' split
  all_goals (simp; try omega)
theorem dec_ok {l : Bs} (h : l ≠ []) : (okS l → (dec l).2 = (tl (at' l 0)).1 + 1) ∧ (¬ okS l → (dec l).2 = 1) := by
  have h0 : 0 < l.length := List.length_pos_iff.2 h
  have hx := at_lt l 0
  have h1 := at_lt l 1
  have h2 := at_lt l 2
  have h3 := at_lt l 3
  have c1 := ct_iff l 1
  have c2 := ct_iff l 2
  have c3 := ct_iff l 3
  have hv3 := valid_iff ((at' l 0 % 16 * 4096 + at' l 1 % 64 * 64 + at' l 2 % 64 : Nat) : Int)
  have hv4 := valid_iff ((at' l 0 % 8 * 262144 + at' l 1 % 64 * 4096 + at' l 2 % 64 * 64 + at' l 3 % 64 : Nat) : Int)
  have ht := tl_cases (at' l 0)
  unfold okS dec
  dsimp only
  generalize at' l 0 = x at *
  generalize at' l 1 = y at *
  generalize at' l 2 = z at *
  generalize at' l 3 = u at *
  repeat' split
  all_goals (try simp only [Bool.and_eq_true, decide_eq_true_eq, beq_iff_eq, c1, c2, c3, hv3, hv4, ge_iff_le] at *)
  all_goals (try dsimp only)
  all_goals (rcases ht with ⟨a, b, ht⟩ | ⟨a, ht⟩ | ⟨a, ht⟩ | ⟨a, b, b', ht⟩ | ⟨a, ht⟩ | ⟨a, b, ht⟩ | ⟨a, ht⟩ | ⟨a, ht⟩)
  all_goals (rw [ht]; dsimp only; constructor <;> intro hh)
  all_goals omega
/-- Not whole: what is there goes on. -/
theorem whole_iff (l : Bs) : whole l = false ↔ l = [] ∨ (l.length ≤ (tl (at' l 0)).1 ∧ (2 ≤ l.length → (tl (at' l 0)).2.1 ≤ at' l 1 ∧ at' l 1 ≤ (tl (at' l 0)).2.2) ∧ (3 ≤ l.length → 128 ≤ at' l 2 ∧ at' l 2 ≤ 191)) := by
  unfold whole
  by_cases h : l = []
  · simp [h]
  rw [if_neg h]
  have h0 : 0 < l.length := List.length_pos_iff.2 h
  have ht := tl_cases (at' l 0)
  generalize at' l 0 = x at *
  have key : ∀ n lo hi, n ≤ 3 → (wk l n n 1 lo hi = false ↔ (l.length ≤ n ∧ (2 ≤ l.length → lo ≤ at' l 1 ∧ at' l 1 ≤ hi) ∧ (3 ≤ l.length → 128 ≤ at' l 2 ∧ at' l 2 ≤ 191))) := by
    intro n lo hi hn
    have hn' : n = 0 ∨ n = 1 ∨ n = 2 ∨ n = 3 := by omega
    rcases hn' with rfl | rfl | rfl | rfl
    · simp only [wk, Bool.true_eq_false, false_iff]; omega
    · simp only [wk]
      repeat' split
      all_goals (simp only [Bool.true_eq_false, false_iff, true_iff] at *; omega)
    · simp only [wk]
      repeat' split
      all_goals (simp only [Bool.true_eq_false, false_iff, true_iff, Nat.reduceAdd] at *; omega)
    · simp only [wk]
      repeat' split
      all_goals (simp only [Bool.true_eq_false, false_iff, true_iff, Nat.reduceAdd] at *; omega)
  have := tl_le x
  rw [key _ _ _ this.1]
  simp [h]
def mores : List Bs := [[128], [143], [144], [159], [160], [191], [128, 128], [143, 128], [144, 128], [159, 128], [160, 128], [191, 128], [128, 128, 128], [143, 128, 128], [144, 128, 128], [191, 128, 128]]
/-- ref.Whole. -/
def rwhole (l : Bs) : Bool :=
  if l = [] then false else if 4 ≤ l.length then true else if 1 < (dec l).2 ∨ at' l 0 < 128 then true
  else mores.all fun m => decide ((dec (l ++ m)).2 ≤ l.length)
theorem at_app (l m : Bs) (k : Nat) : at' (l ++ m) k = if k < l.length then at' l k else at' m (k - l.length) := by
  unfold at'
  by_cases h : k < l.length
  · rw [if_pos h]; simp [List.getD, List.getElem?_append_left h]
  · rw [if_neg h]; simp [List.getD, List.getElem?_append_right (Nat.not_lt.1 h)]
theorem rwhole_eq (l : Bs) : rwhole l = whole l := by
  unfold rwhole
  by_cases h : l = []
  · rw [if_pos h, h]; rfl
  rw [if_neg h]
  have h0 : 0 < l.length := List.length_pos_iff.2 h
  have hwi := whole_iff l
  have hdo := dec_ok h
  have ht := tl_cases (at' l 0)
  have htl := tl_le (at' l 0)
  by_cases h4 : 4 ≤ l.length
  · rw [if_pos h4]
    symm; rw [← Bool.not_eq_false, hwi]
    rintro (e | ⟨e, _⟩)
    · exact h e
    · omega
  rw [if_neg h4]
  by_cases hd : 1 < (dec l).2 ∨ at' l 0 < 128
  · rw [if_pos hd]
    symm; rw [← Bool.not_eq_false, hwi]
    rintro (e | ⟨e, _⟩)
    · exact h e
    · rcases hd with hd | hd
      · by_cases hok : okS l
        · have := hok.2.1; omega
        · rw [hdo.2 hok] at hd; omega
      · rcases ht with ⟨a, b, ht⟩ | ⟨a, ht⟩ | ⟨a, ht⟩ | ⟨a, b, b', ht⟩ | ⟨a, ht⟩ | ⟨a, b, ht⟩ | ⟨a, ht⟩ | ⟨a, ht⟩ <;> rw [ht] at e <;> dsimp only at e <;> omega
  rw [if_neg hd]
  have hnok : ¬ okS l := fun hok => hd (.inl (by rw [hdo.1 hok]; have := hok.1; omega))
  have hdm : ∀ m : Bs, (okS (l ++ m) → (dec (l ++ m)).2 = (tl (at' l 0)).1 + 1) ∧ (¬ okS (l ++ m) → (dec (l ++ m)).2 = 1) := by
    intro m
    have := dec_ok (l := l ++ m) (by simp [h])
    rw [at_app, if_pos h0] at this
    exact this
  have hokm : ∀ m : Bs, okS (l ++ m) ↔ (1 ≤ (tl (at' l 0)).1 ∧ (tl (at' l 0)).1 < l.length + m.length ∧ (tl (at' l 0)).2.1 ≤ at' (l ++ m) 1 ∧ at' (l ++ m) 1 ≤ (tl (at' l 0)).2.2 ∧
      (2 ≤ (tl (at' l 0)).1 → 128 ≤ at' (l ++ m) 2 ∧ at' (l ++ m) 2 ≤ 191) ∧ (3 ≤ (tl (at' l 0)).1 → 128 ≤ at' (l ++ m) 3 ∧ at' (l ++ m) 3 ≤ 191)) := by
    intro m
    unfold okS
    rw [show at' (l ++ m) 0 = at' l 0 by rw [at_app, if_pos h0], List.length_append]
  by_cases hw : whole l = false
  · rw [hw, ← Bool.not_eq_true, List.all_eq_true]
    intro hall
    rcases hwi.1 hw with e | ⟨e1, e2, e3⟩
    · exact h e
    have use : ∀ m ∈ mores, okS (l ++ m) → False := by
      intro m hm hok
      have h1 := of_decide_eq_true (hall m hm)
      rw [(hdm m).1 hok] at h1
      omega
    have hl : l.length = 1 ∨ l.length = 2 ∨ l.length = 3 := by omega
    have app1 : ∀ (m : Bs) (k : Nat), ¬ k < l.length → at' (l ++ m) k = at' m (k - l.length) := fun m k hk => by rw [at_app, if_neg hk]
    have app0 : ∀ (m : Bs) (k : Nat), k < l.length → at' (l ++ m) k = at' l k := fun m k hk => by rw [at_app, if_pos hk]
    have m1 : at' [128] 0 = 128 := rfl
    rcases hl with hl | hl | hl
    · have q1 : ∀ m : Bs, at' (l ++ m) 1 = at' m 0 := fun m => by rw [app1 m 1 (by omega), hl]
      have q2 : ∀ m : Bs, at' (l ++ m) 2 = at' m 1 := fun m => by rw [app1 m 2 (by omega), hl]
      have q3 : ∀ m : Bs, at' (l ++ m) 3 = at' m 2 := fun m => by rw [app1 m 3 (by omega), hl]
      rcases ht with ⟨a, b, ht⟩ | ⟨a, ht⟩ | ⟨a, ht⟩ | ⟨a, b, b', ht⟩ | ⟨a, ht⟩ | ⟨a, b, ht⟩ | ⟨a, ht⟩ | ⟨a, ht⟩
      · exact use [128] (by decide) ((hokm _).2 (by rw [ht, q1, q2, q3, hl]; decide))
      · exact use [160, 128] (by decide) ((hokm _).2 (by rw [ht, q1, q2, q3, hl]; decide))
      · exact use [128, 128] (by decide) ((hokm _).2 (by rw [ht, q1, q2, q3, hl]; decide))
      · exact use [128, 128] (by decide) ((hokm _).2 (by rw [ht, q1, q2, q3, hl]; decide))
      · exact use [144, 128, 128] (by decide) ((hokm _).2 (by rw [ht, q1, q2, q3, hl]; decide))
      · exact use [128, 128, 128] (by decide) ((hokm _).2 (by rw [ht, q1, q2, q3, hl]; decide))
      · exact use [128, 128, 128] (by decide) ((hokm _).2 (by rw [ht, q1, q2, q3, hl]; decide))
      · rw [ht] at e1; dsimp only at e1; omega
    · have q1 : ∀ m : Bs, at' (l ++ m) 1 = at' l 1 := fun m => app0 m 1 (by omega)
      have q2 : ∀ m : Bs, at' (l ++ m) 2 = at' m 0 := fun m => by rw [app1 m 2 (by omega), hl]
      have q3 : ∀ m : Bs, at' (l ++ m) 3 = at' m 1 := fun m => by rw [app1 m 3 (by omega), hl]
      have := e2 (by omega)
      have n2 : (tl (at' l 0)).1 = 2 ∨ (tl (at' l 0)).1 = 3 := by omega
      rcases n2 with n2 | n2
      · refine use [128] (by decide) ((hokm _).2 ?_)
        rw [n2, hl, q1, q2]
        exact ⟨by omega, by decide, this.1, this.2, fun _ => by decide, fun e => by omega⟩
      · refine use [128, 128] (by decide) ((hokm _).2 ?_)
        rw [n2, hl, q1, q2, q3]
        exact ⟨by omega, by decide, this.1, this.2, fun _ => by decide, fun _ => by decide⟩
    · have q1 : ∀ m : Bs, at' (l ++ m) 1 = at' l 1 := fun m => app0 m 1 (by omega)
      have q2 : ∀ m : Bs, at' (l ++ m) 2 = at' l 2 := fun m => app0 m 2 (by omega)
      have q3 : ∀ m : Bs, at' (l ++ m) 3 = at' m 0 := fun m => by rw [app1 m 3 (by omega), hl]
      have t1 := e2 (by omega)
      have t2 := e3 (by omega)
      have n2 : (tl (at' l 0)).1 = 3 := by omega
      refine use [128] (by decide) ((hokm _).2 ?_)
      rw [n2, hl, q1, q2, q3]
      exact ⟨by omega, by decide, t1.1, t1.2, fun _ => t2, fun _ => by decide⟩
  · rw [Bool.not_eq_false] at hw
    rw [hw, List.all_eq_true]
    intro m hm
    refine decide_eq_true ?_
    by_cases hok : okS (l ++ m)
    · exfalso
      have hk := (hokm m).1 hok
      have hnw : whole l = false := by
        rw [hwi]; right
        have app0 : ∀ (k : Nat), k < l.length → at' (l ++ m) k = at' l k := fun k hk => by rw [at_app, if_pos hk]
        refine ⟨?_, ?_, ?_⟩
        · refine Nat.le_of_not_lt fun hlt => hnok ?_
          obtain ⟨k1, k2, k3, k4, k5, k6⟩ := hk
          refine ⟨k1, hlt, ?_, ?_, ?_, ?_⟩
          · rw [← app0 1 (by omega)]; exact k3
          · rw [← app0 1 (by omega)]; exact k4
          · intro e; rw [← app0 2 (by omega)]; exact k5 e
          · intro e; rw [← app0 3 (by omega)]; exact k6 e
        · intro e; rw [← app0 1 (by omega)]; exact ⟨hk.2.2.1, hk.2.2.2.1⟩
        · intro e
          by_cases e2 : 2 ≤ (tl (at' l 0)).1
          · rw [← app0 2 (by omega)]; exact hk.2.2.2.2.1 e2
          · exfalso
            obtain ⟨k1, k2, k3, k4, k5, k6⟩ := hk
            refine hnok ⟨k1, by omega, ?_, ?_, fun e => by omega, fun e => by omega⟩
            · rw [← app0 1 (by omega)]; exact k3
            · rw [← app0 1 (by omega)]; exact k4
      rw [hnw] at hw; cases hw
    · rw [(hdm m).2 hok]; omega
end Go.Proofs.YtfgjhfmgacopoaaDoor
namespace Go.Proofs.YtfgjhfmgacopoaaDoor
open Go.RowKit
/-! Signs, written and read again. -/
theorem at_cons0 (x : UInt8) (l : Bs) : at' (x :: l) 0 = x.toNat := rfl
theorem at_cons1 (x y : UInt8) (l : Bs) : at' (x :: y :: l) 1 = y.toNat := rfl
theorem at_cons2 (x y z : UInt8) (l : Bs) : at' (x :: y :: z :: l) 2 = z.toNat := rfl
theorem at_cons3 (x y z u : UInt8) (l : Bs) : at' (x :: y :: z :: u :: l) 3 = u.toNat := rfl
theorem dec_enc {r : Nat} (h : Utf8.valid (r : Int) = true) (t : Bs) : dec (enc r ++ t) = (r, (enc r).length) := by
  have hv := (valid_iff _).1 h
  rw [enc_eq h]
  by_cases h1 : r < 128
  · have e : encN r = [o8 r] := by unfold encN; rw [if_pos h1]
    rw [e]
    have := (dec_cases ([o8 r] ++ t)).1
    rw [List.singleton_append, at_cons0, o8_toNat] at this
    rw [List.singleton_append, this (by omega)]
    exact Prod.ext (by dsimp only; omega) rfl
  by_cases h2 : r < 2048
  · rw [at_encN2 h1 h2]
    generalize hl : [o8 (192 + r / 64), o8 (128 + r % 64)] ++ t = l
    have a0 : at' l 0 = 192 + r / 64 := by rw [← hl]; show (o8 _).toNat = _; rw [o8_toNat]; omega
    have a1 : at' l 1 = 128 + r % 64 := by rw [← hl]; show (o8 _).toNat = _; rw [o8_toNat]; omega
    have hct : ct l 1 = true := (ct_iff l 1).2 ⟨by rw [← hl]; simp, by omega, by omega⟩
    have hd := (dec_cases l).2.1 (by omega) (by omega)
    have ht : t2 l = true := by rw [t2_eq l (by omega) (by omega), hct, Bool.true_and]; exact decide_eq_true (by omega)
    rw [if_pos ht] at hd
    have hlow := (rlow_ct hct).1
    unfold two at hd
    rw [hlow] at hd
    exact Prod.ext (by dsimp only; omega) hd.2
  by_cases h3 : r < 65536
  · rw [at_encN3 h2 h3]
    generalize hl : [o8 (224 + r / 4096), o8 (128 + r / 64 % 64), o8 (128 + r % 64)] ++ t = l
    have a0 : at' l 0 = 224 + r / 4096 := by rw [← hl]; show (o8 _).toNat = _; rw [o8_toNat]; omega
    have a1 : at' l 1 = 128 + r / 64 % 64 := by rw [← hl]; show (o8 _).toNat = _; rw [o8_toNat]; omega
    have a2 : at' l 2 = 128 + r % 64 := by rw [← hl]; show (o8 _).toNat = _; rw [o8_toNat]; omega
    have hct1 : ct l 1 = true := (ct_iff l 1).2 ⟨by rw [← hl]; simp, by omega, by omega⟩
    have hct2 : ct l 2 = true := (ct_iff l 2).2 ⟨by rw [← hl]; simp, by omega, by omega⟩
    have hval : at' l 0 % 16 * 4096 + at' l 1 % 64 * 64 + at' l 2 % 64 = r := by omega
    have hd := (dec_cases l).2.2.1 (by omega) (by omega)
    have ht : t3 l = true := by
      rw [t3_eq l (by omega) (by omega), hct1, hct2, hval, h]
      simp; omega
    rw [if_pos ht] at hd
    have hl1 := (rlow_ct hct1).1
    have hl2 := (rlow_ct hct2).1
    unfold three at hd
    rw [hl1, hl2] at hd
    exact Prod.ext (by dsimp only; omega) hd.2
  · rw [at_encN4 h3]
    generalize hl : [o8 (240 + r / 262144), o8 (128 + r / 4096 % 64), o8 (128 + r / 64 % 64), o8 (128 + r % 64)] ++ t = l
    have a0 : at' l 0 = 240 + r / 262144 := by rw [← hl]; show (o8 _).toNat = _; rw [o8_toNat]; omega
    have a1 : at' l 1 = 128 + r / 4096 % 64 := by rw [← hl]; show (o8 _).toNat = _; rw [o8_toNat]; omega
    have a2 : at' l 2 = 128 + r / 64 % 64 := by rw [← hl]; show (o8 _).toNat = _; rw [o8_toNat]; omega
    have a3 : at' l 3 = 128 + r % 64 := by rw [← hl]; show (o8 _).toNat = _; rw [o8_toNat]; omega
    have hct1 : ct l 1 = true := (ct_iff l 1).2 ⟨by rw [← hl]; simp, by omega, by omega⟩
    have hct2 : ct l 2 = true := (ct_iff l 2).2 ⟨by rw [← hl]; simp, by omega, by omega⟩
    have hct3 : ct l 3 = true := (ct_iff l 3).2 ⟨by rw [← hl]; simp, by omega, by omega⟩
    have hval : at' l 0 % 8 * 262144 + at' l 1 % 64 * 4096 + at' l 2 % 64 * 64 + at' l 3 % 64 = r := by omega
    have hd := (dec_cases l).2.2.2.1 (by omega) (by omega)
    have ht : t4 l = true := by
      rw [t4_eq l (by omega) (by omega), hct1, hct2, hct3, hval, h]
      simp; omega
    rw [if_pos ht] at hd
    have hl1 := (rlow_ct hct1).1
    have hl2 := (rlow_ct hct2).1
    have hl3 := (rlow_ct hct3).1
    unfold four at hd
    rw [hl1, hl2, hl3] at hd
    exact Prod.ext (by dsimp only; omega) hd.2
theorem enc_ne {r : Nat} (h : Utf8.valid (r : Int) = true) : enc r ≠ [] := by
  rw [enc_eq h]; intro e
  have := congrArg List.length e
  rw [encN_len] at this
  repeat' split at this
  all_goals simp at this
theorem runes_enc (rs : List Nat) (hv : ∀ r ∈ rs, Utf8.valid (r : Int) = true) (t : Bs) : runes (rs.flatMap enc ++ t) = rs ++ runes t := by
  induction rs with
  | nil => rfl
  | cons r rs ih =>
    have h := hv r (List.mem_cons_self ..)
    rw [List.flatMap_cons, List.append_assoc, runes_cons (by simp [enc_ne h]), dec_enc h, List.drop_left, ih fun x hx => hv x (List.mem_cons_of_mem _ hx)]
    rfl
theorem runes_val (l : Bs) : ∀ r ∈ runes l, Utf8.valid (r : Int) = true := by
  suffices h : ∀ n (l : Bs), ∀ r ∈ runesF n l, Utf8.valid (r : Int) = true from h _ l
  intro n
  induction n with
  | zero => intro l r h; simp [runesF] at h
  | succ n ih =>
    intro l r h
    unfold runesF at h
    split at h
    · simp at h
    · rcases List.mem_cons.1 h with h | h
      · rw [h]; exact dec_val l
      · exact ih _ r h
theorem runes_clean (l t : Bs) : runes (clean l ++ t) = runes l ++ runes t := runes_enc _ (runes_val l) t
theorem runes_clean' (l : Bs) : runes (clean l) = runes l := by
  have := runes_clean l []
  rw [List.append_nil] at this
  rw [this, runes_nil, List.append_nil]
theorem clean_clean (l : Bs) : clean (clean l) = clean l := by unfold clean; rw [show runes ((runes l).flatMap enc) = runes l from runes_clean' l]
/-- A sign's bytes are whole. -/
theorem whole_of_dec {l : Bs} (h : l ≠ []) (h1 : (dec l).2 = l.length) (h2 : 2 ≤ l.length ∨ at' l 0 < 128) : whole l = true := by
  rw [← Bool.not_eq_false, whole_iff]
  rintro (e | ⟨e, _⟩)
  · exact h e
  · by_cases hok : okS l
    · have := hok.2.1; omega
    · have := (dec_ok h).2 hok
      rcases h2 with h2 | h2
      · omega
      · have := tl_cases (at' l 0)
        rcases this with ⟨a, b, ht⟩ | ⟨a, ht⟩ | ⟨a, ht⟩ | ⟨a, b, b', ht⟩ | ⟨a, ht⟩ | ⟨a, b, ht⟩ | ⟨a, ht⟩ | ⟨a, ht⟩ <;> rw [ht] at e <;> dsimp only at e <;> omega
theorem whole_enc {r : Nat} (h : Utf8.valid (r : Int) = true) : whole (enc r) = true := by
  have hd := dec_enc h []
  rw [List.append_nil] at hd
  refine whole_of_dec (enc_ne h) (by rw [hd]) ?_
  rw [enc_eq h]
  by_cases h1 : r < 128
  · right; unfold encN; rw [if_pos h1, at_cons0, o8_toNat]; omega
  · left; rw [encN_len, if_neg h1]; split
    · omega
    · split <;> omega
/-- What dec tells does not hang on what stands behind what is whole. -/
theorem dec_app {l t : Bs} (h : whole l = true) : dec (l ++ t) = dec l := by
  have hne := whole_ne h
  have h0 : 0 < l.length := List.length_pos_iff.2 hne
  have a : ∀ k, k < l.length → at' (l ++ t) k = at' l k := fun k hk => by rw [at_app, if_pos hk]
  have cc : ∀ k, k < l.length → ct (l ++ t) k = ct l k := fun k hk => by
    rw [Bool.eq_iff_iff, ct_iff, ct_iff, a k hk, List.length_append]; omega
  have hok : okS (l ++ t) ↔ okS l := by
    have hw : ¬ (whole l = false) := by simp [h]
    rw [whole_iff] at hw
    unfold okS
    rw [a 0 h0, List.length_append]
    constructor
    · rintro ⟨k1, k2, k3, k4, k5, k6⟩
      have hlt : (tl (at' l 0)).1 < l.length := by
        refine Nat.lt_of_not_le fun hle => hw (.inr ⟨hle, fun e => ?_, fun e => ?_⟩)
        · rw [← a 1 (by omega)]; exact ⟨k3, k4⟩
        · rw [← a 2 (by omega)]; exact k5 (by omega)
      refine ⟨k1, hlt, ?_, ?_, fun e => ?_, fun e => ?_⟩
      · rw [← a 1 (by omega)]; exact k3
      · rw [← a 1 (by omega)]; exact k4
      · rw [← a 2 (by omega)]; exact k5 e
      · rw [← a 3 (by omega)]; exact k6 e
    · rintro ⟨k1, k2, k3, k4, k5, k6⟩
      refine ⟨k1, by omega, ?_, ?_, fun e => ?_, fun e => ?_⟩
      · rw [a 1 (by omega)]; exact k3
      · rw [a 1 (by omega)]; exact k4
      · rw [a 2 (by omega)]; exact k5 e
      · rw [a 3 (by omega)]; exact k6 e
  have hne2 : l ++ t ≠ [] := by simp [hne]
  by_cases ho : okS l
  · have hlen := (dec_ok hne).1 ho
    have hk : ∀ k, k < (dec l).2 → k < l.length := fun k hk => by have := dec_le hne; omega
    unfold dec
    have e1 : 2 ≤ (dec l).2 := by have := ho.1; omega
    have b1 := hk 1 (by omega)
    by_cases n2 : 2 ≤ (tl (at' l 0)).1
    · have b2 := hk 2 (by omega)
      by_cases n3 : 3 ≤ (tl (at' l 0)).1
      · have b3 := hk 3 (by omega)
        simp only [a 0 h0, a 1 b1, a 2 b2, a 3 b3, cc 1 b1, cc 2 b2, cc 3 b3]
      · have hx : at' l 0 / 8 ≠ 30 := by
          have := tl_cases (at' l 0)
          rcases this with ⟨p, q, ht⟩ | ⟨p, ht⟩ | ⟨p, ht⟩ | ⟨p, q, b', ht⟩ | ⟨p, ht⟩ | ⟨p, q, ht⟩ | ⟨p, ht⟩ | ⟨p, ht⟩ <;> rw [ht] at n2 n3 <;> dsimp only at n2 n3 <;> omega
        have hx' : (at' l 0 / 8 == 30) = false := by simpa using hx
        simp only [a 0 h0, a 1 b1, a 2 b2, cc 1 b1, cc 2 b2, hx', Bool.false_and, Bool.false_eq_true, if_false]
    · have hx : at' l 0 / 8 ≠ 30 ∧ at' l 0 / 16 ≠ 14 := by
        have := ho.1
        rcases tl_cases (at' l 0) with ⟨p, q, ht⟩ | ⟨p, ht⟩ | ⟨p, ht⟩ | ⟨p, q, b', ht⟩ | ⟨p, ht⟩ | ⟨p, q, ht⟩ | ⟨p, ht⟩ | ⟨p, ht⟩ <;> rw [ht] at n2 this <;> dsimp only at n2 this <;> omega
      have hx' : (at' l 0 / 8 == 30) = false := by simpa using hx.1
      have hy' : (at' l 0 / 16 == 14) = false := by simpa using hx.2
      simp only [a 0 h0, a 1 b1, cc 1 b1, hx', hy', Bool.false_and, Bool.false_eq_true, if_false]
  · have d1 := (dec_ok hne).2 ho
    have d2 := (dec_ok hne2).2 (fun e => ho (hok.1 e))
    have one : ∀ m : Bs, (dec m).2 = 1 → dec m = (if at' m 0 < 128 then at' m 0 else 65533, 1) := by
      intro m hm
      obtain ⟨c1, c2, c3, c4, c5, c6⟩ := dec_cases m
      by_cases x1 : at' m 0 < 128
      · rw [if_pos x1]; exact c1 x1
      rw [if_neg x1]
      by_cases x2 : at' m 0 < 192
      · exact c5 (by omega) x2
      by_cases x3 : at' m 0 < 224
      · have := c2 (by omega) x3
        split at this
        · omega
        · exact this
      by_cases x4 : at' m 0 < 240
      · have := c3 (by omega) x4
        split at this
        · omega
        · exact this
      by_cases x5 : at' m 0 < 248
      · have := c4 (by omega) x5
        split at this
        · omega
        · exact this
      exact c6 (by omega)
    rw [one _ d1, one _ d2, a 0 h0]
end Go.Proofs.YtfgjhfmgacopoaaDoor
namespace Go.Proofs.YtfgjhfmgacopoaaDoor
open Go.RowKit
theorem drain_app : ∀ (n : Nat) (l : Bs), l.length ≤ n → (∀ t, runes (l ++ t) = (drain l).1 ++ runes ((drain l).2 ++ t)) ∧ whole (drain l).2 = false := by
  intro n
  induction n with
  | zero =>
    intro l h
    have : l = [] := List.eq_nil_of_length_eq_zero (by omega)
    subst this
    exact ⟨fun t => rfl, rfl⟩
  | succ n ih =>
    intro l h
    by_cases hw : whole l = true
    · have hne := whole_ne hw
      have hp := dec_pos l
      have hl := dec_le hne
      have h0 : 0 < l.length := List.length_pos_iff.2 hne
      obtain ⟨a, b⟩ := ih (l.drop (dec l).2) (by simp; omega)
      rw [drain_whole hw]
      refine ⟨fun t => ?_, b⟩
      rw [runes_cons (by simp [hne]), dec_app hw, List.drop_append_of_le_length hl, a t]
      rfl
    · rw [drain_not (Bool.eq_false_iff.2 hw)]
      exact ⟨fun t => rfl, Bool.eq_false_iff.2 hw⟩
theorem drain_runes (l t : Bs) : runes (l ++ t) = (drain l).1 ++ runes ((drain l).2 ++ t) := (drain_app _ l (Nat.le_refl _)).1 t
theorem drain_rest (l : Bs) : whole (drain l).2 = false := (drain_app _ l (Nat.le_refl _)).2
theorem part_le {l : Bs} (h : whole l = false) : l.length ≤ 3 := by
  rcases (whole_iff l).1 h with e | ⟨e, _⟩
  · subst e; simp
  · have := (tl_le (at' l 0)).1; omega
end Go.Proofs.YtfgjhfmgacopoaaDoor
namespace Go.Proofs.YtfgjhfmgacopoaaDoor
open Go.RowKit
theorem dec_one {m : Bs} (hm : (dec m).2 = 1) : dec m = (if at' m 0 < 128 then at' m 0 else 65533, 1) := by
  obtain ⟨c1, c2, c3, c4, c5, c6⟩ := dec_cases m
  by_cases x1 : at' m 0 < 128
  · rw [if_pos x1]; exact c1 x1
  rw [if_neg x1]
  by_cases x2 : at' m 0 < 192
  · exact c5 (by omega) x2
  by_cases x3 : at' m 0 < 224
  · have := c2 (by omega) x3
    split at this
    · omega
    · exact this
  by_cases x4 : at' m 0 < 240
  · have := c3 (by omega) x4
    split at this
    · omega
    · exact this
  by_cases x5 : at' m 0 < 248
  · have := c4 (by omega) x5
    split at this
    · omega
    · exact this
  exact c6 (by omega)
/-- A sign is read from its own bytes. -/
theorem dec_takeGe {l : Bs} (hl : l ≠ []) {m : Nat} (hm : (dec l).2 ≤ m) : dec (l.take m) = dec l := by
  have hp := dec_pos l
  have h0 : 0 < l.length := List.length_pos_iff.2 hl
  have hne : l.take m ≠ [] := List.length_pos_iff.1 (by rw [List.length_take]; omega)
  have ha : at' (l.take m) 0 = at' l 0 := by unfold at'; simp [List.getD, show 0 < m by omega]
  by_cases hw : whole (l.take m) = true
  · have := dec_app (t := l.drop m) hw
    rw [List.take_append_drop] at this
    exact this.symm
  · have hw' := Bool.eq_false_iff.2 hw
    rcases (whole_iff _).1 hw' with e | ⟨e, _⟩
    · exact absurd e hne
    · rw [ha, List.length_take] at e
      have hdle := dec_le hl
      have n1 : ¬ okS l := fun ho => by
        have := (dec_ok hl).1 ho; omega
      have n2 : ¬ okS (l.take m) := fun ho => by
        have := ho.2.1
        rw [ha, List.length_take] at this; omega
      rw [dec_one ((dec_ok hl).2 n1), dec_one ((dec_ok hne).2 n2), ha]
/-- A place where a sign ends. -/
def CutAt (b : Bs) (p : Nat) : Prop := p ≤ b.length ∧ ∃ rs, ∀ m, p ≤ m → runes (b.take m) = rs ++ runes ((b.take m).drop p)
theorem CutAt.zero (b : Bs) : CutAt b 0 := ⟨Nat.zero_le _, [], fun m _ => by simp⟩
theorem CutAt.next {b : Bs} {p : Nat} (h : CutAt b p) (hp : p < b.length) : CutAt b (p + (dec (b.drop p)).2) := by
  obtain ⟨h1, rs, h2⟩ := h
  have hne : b.drop p ≠ [] := List.length_pos_iff.1 (by simp; omega)
  have hl := dec_le hne
  have hd := dec_pos (b.drop p)
  refine ⟨by rw [List.length_drop] at hl; omega, rs ++ [(dec (b.drop p)).1], fun m hm => ?_⟩
  rw [h2 m (by omega), List.drop_take]
  have hne2 : (b.drop p).take (m - p) ≠ [] := List.length_pos_iff.1 (by rw [List.length_take, List.length_drop]; omega)
  rw [runes_cons hne2, dec_takeGe hne (by omega), List.drop_take, List.drop_take, List.drop_drop, show m - p - (dec (b.drop p)).2 = m - (p + (dec (b.drop p)).2) by omega]
  simp
theorem CutAt.runes_eq {b : Bs} {p : Nat} (h : CutAt b p) : runes b = runes (b.take p) ++ runes (b.drop p) := by
  obtain ⟨h1, rs, h2⟩ := h
  have a := h2 b.length h1
  have c := h2 p (Nat.le_refl _)
  rw [List.take_length] at a
  rw [List.drop_of_length_le (by simp; omega), runes_nil, List.append_nil] at c
  rw [a, c]
theorem CutAt.clean_eq {b : Bs} {p : Nat} (h : CutAt b p) : clean b = clean (b.take p) ++ clean (b.drop p) := by
  unfold clean; rw [h.runes_eq, List.flatMap_append]
end Go.Proofs.YtfgjhfmgacopoaaDoor
