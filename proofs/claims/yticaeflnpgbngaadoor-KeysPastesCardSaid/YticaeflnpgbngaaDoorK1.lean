import Derived.Test.YticaeflnpgbngaaDoorTt1
namespace Go.Proofs.YticaeflnpgbngaaDoor
set_option linter.unusedVariables false
set_option linter.unusedSimpArgs false
/-! Chapter 04 in plain Lean: the decoder, and the document's reading. -/
structure KeyT where
  k : Nat
  t : Bs
  deriving DecidableEq
def kb (k : Nat) : KeyT := ⟨k, []⟩
def sgn (r : Nat) : KeyT := if ctl (r : Int) = true then kb 0 else ⟨1, enc r⟩
def lowT : List Nat := [0, 7, 5, 0, 4, 8, 6, 22, 3, 23, 2, 11, 25, 2, 20, 0, 19, 0, 21, 0, 24, 12, 0, 13, 18, 15, 0, 0, 0, 0, 0, 17]
def lowK (x : UInt8) : Nat := lowT.getD x.toNat 0
def letK (x : UInt8) : Nat := if x = 98 then 9 else if x = 102 then 10 else if x = 100 then 14 else if x = 121 then 16 else if x = 127 then 13 else 0
def arrK (x : UInt8) : Nat := if x = 65 then 19 else if x = 66 then 20 else if x = 67 then 6 else if x = 68 then 5 else if x = 72 then 7 else if x = 70 then 8 else 0
def tilK (s : Bs) : Nat := if s = [49] ∨ s = [55] then 7 else if s = [52] ∨ s = [56] then 8 else if s = [51] then 4 else 0
def s13 (s : Bs) : Prop := s = [49, 59, 51] ∨ s = [49, 59, 53]
instance (s : Bs) : Decidable (s13 s) := by unfold s13; infer_instance
def btwK (s : Bs) (x : UInt8) : Nat := if s13 s ∧ x = 67 then 10 else if s13 s ∧ x = 68 then 9 else if x ≠ 126 then 0 else tilK s
def toldK (s : Bs) (x : UInt8) : Nat := if x = 126 then tilK s else if s = [] then arrK x else if ¬ s13 s then 0 else if x = 67 then 10 else if x = 68 then 9 else 0
def fin (x : UInt8) : Prop := 64 ≤ x.toNat ∧ x.toNat ≤ 126
instance (x : UInt8) : Decidable (fin x) := by unfold fin; infer_instance
def mid (x : UInt8) : Prop := 32 ≤ x.toNat ∧ x.toNat < 64
instance (x : UInt8) : Decidable (mid x) := by unfold mid; infer_instance
/-- A byte that is a sign's, or begins one. -/
def sig (x : UInt8) : Prop := 128 ≤ x.toNat ∨ (32 ≤ x.toNat ∧ x.toNat < 127)
instance (x : UInt8) : Decidable (sig x) := by unfold sig; infer_instance
def endB : Bs := [27, 91, 50, 48, 49, 126]
def begB : Bs := [27, 91, 50, 48, 48, 126]
/-! The decoder. -/
structure Dc where
  ph : Nat
  f : Bs
  sq : Bs
  mn : Nat
  tl : Bs
  ag : Nat
  deriving DecidableEq
def Dc.new : Dc := ⟨0, [], [], 0, [], 0⟩
def Dc.to (d : Dc) (p : Nat) : Dc := { d with ph := p, sq := [], mn := 0, tl := [] }
abbrev Out := List KeyT × Dc
def firstD (d : Dc) (x : UInt8) : Out :=
  if sig x then ((drain (d.f ++ [x])).1.map sgn, { d with f := (drain (d.f ++ [x])).2 })
  else if x = 27 then ((runes d.f).map sgn, ({ d with f := [] } : Dc).to 1)
  else if x = 127 then ((runes d.f).map sgn ++ [kb 3], { d with f := [] })
  else ((runes d.f).map sgn ++ [kb (lowK x)], { d with f := [] })
def anewD (d : Dc) (k : Nat) (x : UInt8) : Out := (kb k :: (firstD (d.to 0) x).1, (firstD (d.to 0) x).2)
def behindD (d : Dc) (x : UInt8) : Out :=
  if x = 91 then ([], d.to 2) else if x = 79 then ([], d.to 3) else if x.toNat < 32 ∨ 127 < x.toNat then anewD d 27 x else ([kb (letK x)], d.to 0)
def shortD (d : Dc) (x : UInt8) : Out := if fin x then ([kb (arrK x)], d.to 0) else anewD d 0 x
def midD (d : Dc) (x : UInt8) : Dc := { d with mn := d.mn + 1, sq := if d.mn + 1 ≤ 16 then d.sq ++ [x] else d.sq }
def seqD (d : Dc) (x : UInt8) : Out :=
  if mid x then ([], midD d x)
  else if ¬ fin x then anewD d 0 x
  else if x = 126 ∧ d.sq = [50, 48, 48] then ([], d.to 4)
  else if 16 < d.mn then ([kb 0], d.to 0) else ([kb (toldK d.sq x)], d.to 0)
def pasteD (d : Dc) (x : UInt8) : Dc := { d with mn := d.mn + 1, sq := if d.mn + 1 ≤ 1200 then d.sq ++ [x] else d.sq, tl := (d.tl ++ [x]).drop ((d.tl ++ [x]).length - 6) }
def pastedD (d : Dc) (x : UInt8) : Out :=
  if (pasteD d x).tl = endB then ([⟨26, pl ((pasteD d x).sq.take (min (d.mn + 1 - 6) 1200))⟩], d.to 0) else ([], pasteD d x)
def putD (d0 : Dc) (x : UInt8) : Out :=
  if d0.ph = 1 then behindD { d0 with ag := 0 } x else if d0.ph = 2 then seqD { d0 with ag := 0 } x else if d0.ph = 3 then shortD { d0 with ag := 0 } x else if d0.ph = 4 then pastedD { d0 with ag := 0 } x else firstD { d0 with ag := 0 } x
def waitsD (d : Dc) : Bool := decide (d.ph ≠ 0) || decide (0 < d.f.length)
def tickD (d : Dc) : Out :=
  if waitsD d = false ∨ d.ph = 4 then ([], d)
  else if d.ag + 1 < 2 then ([], { d with ag := d.ag + 1 })
  else if d.ph = 0 then ((runes d.f).map sgn, ({ d with ag := 0, f := [] } : Dc).to 0)
  else if d.ph = 1 then ([kb 27], ({ d with ag := 0 } : Dc).to 0) else ([kb 0], ({ d with ag := 0 } : Dc).to 0)
def feedD (d : Dc) : Bs → Out
  | [] => ([], d)
  | x :: b => ((putD d x).1 ++ (feedD (putD d x).2 b).1, (feedD (putD d x).2 b).2)
/-! The document's reading. -/
/-- Where the end of a paste begins, from a place on. -/
def endAt (b : Bs) (k : Nat) : Prop := k + 6 ≤ b.length ∧ (b.drop k).take 6 = endB
instance (b : Bs) (k : Nat) : Decidable (endAt b k) := by unfold endAt; infer_instance
def endFrom (b : Bs) : Nat → Nat → Option Nat
  | 0, _ => none
  | n + 1, k => if endAt b k then some k else endFrom b n (k + 1)
def endOf (b : Bs) (k : Nat) : Option Nat := endFrom b (b.length - k) k
def isP (b : Bs) : Bool := decide (b.take 6 = begB)
def midN : Bs → Nat
  | [] => 0
  | x :: b => if mid x then midN b + 1 else 0
def csiR (b : Bs) : KeyT × Nat :=
  if isP b = true then match endOf b 6 with
    | none => (kb 0, 0)
    | some a => (⟨26, pl (((b.drop 6).take (a - 6)).take 1200)⟩, a + 6)
  else match (b.drop (2 + midN (b.drop 2))) with
    | [] => (kb 0, 0)
    | x :: _ => if fin x then (if midN (b.drop 2) = 0 then (kb (arrK x), 3) else (kb (btwK ((b.drop 2).take (midN (b.drop 2))) x), 2 + midN (b.drop 2) + 1)) else (kb 0, 2 + midN (b.drop 2))
def escR : Bs → KeyT × Nat
  | [] => (kb 0, 0)
  | [_] => (kb 0, 0)
  | y :: x :: b =>
    if x = 91 then csiR (y :: x :: b)
    else if x = 79 then match b with
      | [] => (kb 0, 0)
      | z :: _ => if fin z then (kb (arrK z), 3) else (kb 0, 2)
    else if x = 98 then (kb 9, 2) else if x = 102 then (kb 10, 2) else if x = 100 then (kb 14, 2) else if x = 121 then (kb 16, 2) else if x = 127 then (kb 13, 2)
    else if 32 ≤ x.toNat ∧ x.toNat < 127 then (kb 0, 2) else (kb 27, 1)
def oneR (b : Bs) : KeyT × Nat :=
  match b with
  | [] => (kb 0, 0)
  | x :: _ => if x = 27 then escR b else if x.toNat < 32 then (kb (lowK x), 1) else if x = 127 then (kb 3, 1) else if whole b = false then (kb 0, 0) else (sgn (dec b).1, (dec b).2)
def readR : Nat → Bs → List KeyT × Bs
  | 0, b => ([], b)
  | n + 1, b => if b = [] then ([], []) else if (oneR b).2 = 0 then ([], b) else ((oneR b).1 :: (readR n (b.drop (oneR b).2)).1, (readR n (b.drop (oneR b).2)).2)
def putR (b : Bs) (x : UInt8) : List KeyT × Bs := readR (b ++ [x]).length (b ++ [x])
end Go.Proofs.YticaeflnpgbngaaDoor
namespace Go.Proofs.YticaeflnpgbngaaDoor
set_option linter.unusedVariables false
set_option linter.unusedSimpArgs false
/-! The decoder tells what the document reads. -/
def read (b : Bs) : List KeyT × Bs := readR b.length b
theorem readR_more : ∀ (n : Nat) (b : Bs), b.length ≤ n → readR (n + 1) b = readR n b := by
  intro n
  induction n with
  | zero =>
    intro b h
    have : b = [] := List.eq_nil_of_length_eq_zero (by omega)
    subst this; rfl
  | succ n ih =>
    intro b h
    by_cases h0 : b = []
    · subst h0; rfl
    by_cases h1 : (oneR b).2 = 0
    · rw [readR, if_neg h0, if_pos h1, readR, if_neg h0, if_pos h1]
    · have hl : 0 < b.length := List.length_pos_iff.2 h0
      have e : (b.drop (oneR b).2).length ≤ n := by rw [List.length_drop]; omega
      rw [show readR (n + 1 + 1) b = ((oneR b).1 :: (readR (n + 1) (b.drop (oneR b).2)).1, (readR (n + 1) (b.drop (oneR b).2)).2) by rw [readR, if_neg h0, if_neg h1],
        show readR (n + 1) b = ((oneR b).1 :: (readR n (b.drop (oneR b).2)).1, (readR n (b.drop (oneR b).2)).2) by rw [readR, if_neg h0, if_neg h1], ih _ e]
theorem readR_eq (n : Nat) (b : Bs) (h : b.length ≤ n) : readR n b = read b := by
  obtain ⟨d, rfl⟩ : ∃ d, n = b.length + d := ⟨n - b.length, by omega⟩
  induction d with
  | zero => rfl
  | succ d ih => rw [← Nat.add_assoc, readR_more _ _ (by omega)]; exact ih (by omega)
theorem read_nil : read [] = ([], []) := rfl
theorem read_wait {b : Bs} (h : (oneR b).2 = 0) : read b = ([], b) := by
  cases b with
  | nil => rfl
  | cons x b => unfold read; rw [List.length_cons, readR, if_neg (by simp), if_pos h]
theorem read_step {b : Bs} (h0 : b ≠ []) (h : (oneR b).2 ≠ 0) : read b = ((oneR b).1 :: (read (b.drop (oneR b).2)).1, (read (b.drop (oneR b).2)).2) := by
  have hl : 0 < b.length := List.length_pos_iff.2 h0
  obtain ⟨n, hn⟩ : ∃ n, b.length = n + 1 := ⟨b.length - 1, by omega⟩
  have e := readR_eq n (b.drop (oneR b).2) (by rw [List.length_drop]; omega)
  rw [← e]
  unfold read
  rw [hn, readR, if_neg h0, if_neg h]
theorem putR_eq (b : Bs) (x : UInt8) : putR b x = read (b ++ [x]) := rfl
theorem sig_one {x : UInt8} (b : Bs) (h : sig x) : oneR (x :: b) = if whole (x :: b) = false then (kb 0, 0) else (sgn (dec (x :: b)).1, (dec (x :: b)).2) := by
  unfold sig at h
  have h1 : x ≠ 27 := by intro e; subst e; simp at h
  have h2 : x ≠ 127 := by intro e; subst e; simp at h
  have h3 : ¬ x.toNat < 32 := by omega
  unfold oneR
  dsimp only
  rw [if_neg h1, if_neg h3, if_neg h2]
/-- Bytes of signs are read as the feed tells them. -/
theorem read_sig : ∀ (n : Nat) (l : Bs), l.length ≤ n → (∀ y ∈ l, sig y) → read l = ((drain l).1.map sgn, (drain l).2) := by
  intro n
  induction n with
  | zero =>
    intro l h _
    have : l = [] := List.eq_nil_of_length_eq_zero (by omega)
    subst this; rfl
  | succ n ih =>
    intro l h hs
    cases l with
    | nil => rfl
    | cons x l =>
      have h1 := sig_one l (hs x (List.mem_cons_self ..))
      cases hw : whole (x :: l) with
      | false =>
        rw [hw] at h1
        rw [drain_not hw, read_wait (by rw [h1]; rfl)]; rfl
      | true =>
        rw [hw] at h1
        have hp := dec_pos (x :: l)
        have h1' : oneR (x :: l) = (sgn (dec (x :: l)).1, (dec (x :: l)).2) := by rw [h1]; rfl
        rw [read_step (by simp) (by rw [h1']; dsimp only; omega), h1', drain_whole hw]
        dsimp only
        rw [ih _ (by rw [List.length_drop]; rw [List.length_cons] at h ⊢; omega) (fun y hy => hs y (List.mem_of_mem_drop hy))]
        rfl
/-- What waits in a feed: bytes from 80 on. -/
theorem wait_high {l : Bs} (h : whole l = false) : ∀ y ∈ l, 128 ≤ y.toNat := by
  rcases (whole_iff l).1 h with rfl | ⟨h1, h2, h3⟩
  · simp
  · have ht := tl_cases (at' l 0)
    have h3' := part_le h
    match l, h3' with
    | [], _ => simp
    | [a], _ =>
      intro y hy
      rw [List.mem_singleton.1 hy]
      have : at' [a] 0 = a.toNat := rfl
      rw [this] at ht h1
      rcases ht with ⟨a1, b1, e⟩ | ⟨a1, e⟩ | ⟨a1, e⟩ | ⟨a1, b1, b2, e⟩ | ⟨a1, e⟩ | ⟨a1, b1, e⟩ | ⟨a1, e⟩ | ⟨a1, e⟩ <;> rw [e] at h1 <;> simp at h1 <;> omega
    | [a, b], _ =>
      intro y hy
      have e0 : at' [a, b] 0 = a.toNat := rfl
      have e1 : at' [a, b] 1 = b.toNat := rfl
      rw [e0] at ht h1 h2
      rw [e1] at h2
      have hb := h2 (by simp)
      rcases List.mem_cons.1 hy with rfl | hy
      · rcases ht with ⟨a1, b1, e⟩ | ⟨a1, e⟩ | ⟨a1, e⟩ | ⟨a1, b1, b2, e⟩ | ⟨a1, e⟩ | ⟨a1, b1, e⟩ | ⟨a1, e⟩ | ⟨a1, e⟩ <;> rw [e] at h1 <;> simp at h1 <;> omega
      · rw [List.mem_singleton.1 hy]
        rcases ht with ⟨a1, b1, e⟩ | ⟨a1, e⟩ | ⟨a1, e⟩ | ⟨a1, b1, b2, e⟩ | ⟨a1, e⟩ | ⟨a1, b1, e⟩ | ⟨a1, e⟩ | ⟨a1, e⟩ <;> rw [e] at h1 hb <;> simp at h1 hb <;> omega
    | [a, b, c], _ =>
      intro y hy
      have e0 : at' [a, b, c] 0 = a.toNat := rfl
      have e1 : at' [a, b, c] 1 = b.toNat := rfl
      have e2 : at' [a, b, c] 2 = c.toNat := rfl
      rw [e0] at ht h1 h2
      rw [e1] at h2
      rw [e2] at h3
      have hb := h2 (by simp)
      have hc := h3 (by simp)
      rcases List.mem_cons.1 hy with rfl | hy
      · rcases ht with ⟨a1, b1, e⟩ | ⟨a1, e⟩ | ⟨a1, e⟩ | ⟨a1, b1, b2, e⟩ | ⟨a1, e⟩ | ⟨a1, b1, e⟩ | ⟨a1, e⟩ | ⟨a1, e⟩ <;> rw [e] at h1 <;> simp at h1 <;> omega
      · rcases List.mem_cons.1 hy with rfl | hy
        · rcases ht with ⟨a1, b1, e⟩ | ⟨a1, e⟩ | ⟨a1, e⟩ | ⟨a1, b1, b2, e⟩ | ⟨a1, e⟩ | ⟨a1, b1, e⟩ | ⟨a1, e⟩ | ⟨a1, e⟩ <;> rw [e] at h1 hb <;> simp at h1 hb <;> omega
        · rw [List.mem_singleton.1 hy]; omega
theorem ct_snoc (f : Bs) (x : UInt8) (hx : x.toNat < 128) (k : Nat) : ct (f ++ [x]) k = ct f k := by
  unfold ct
  rw [at_app]
  by_cases h : k < f.length
  · rw [if_pos h, decide_eq_true h, decide_eq_true (by simp; omega)]
  · rw [if_neg h, decide_eq_false h, Bool.false_and]
    by_cases h2 : k < (f ++ [x]).length
    · have e : k - f.length = 0 := by simp at h2; omega
      have h9 : at' [x] 0 = x.toNat := rfl
      rw [e, h9]
      have : (x.toNat / 64 == 2) = false := by rw [beq_eq_false_iff_ne]; omega
      rw [this, Bool.and_false]
    · rw [decide_eq_false h2, Bool.false_and]
theorem at_snoc {f : Bs} (x : UInt8) {k : Nat} (h : k < f.length) : at' (f ++ [x]) k = at' f k := by rw [at_app, if_pos h]
/-- A byte below 80 behind changes no sign. -/
theorem dec_snoc {f : Bs} (h0 : f ≠ []) (x : UInt8) (hx : x.toNat < 128) : dec (f ++ [x]) = dec f := by
  have hl : 0 < f.length := List.length_pos_iff.2 h0
  unfold dec
  rw [at_snoc x hl]
  simp only [ct_snoc f x hx]
  by_cases c1 : ct f 1 = true
  · rw [at_snoc x (ct_lt c1)]
    by_cases c2 : ct f 2 = true
    · rw [at_snoc x (ct_lt c2)]
      by_cases c3 : ct f 3 = true
      · rw [at_snoc x (ct_lt c3)]
      · simp [c3]
    · simp [c2]
  · simp [c1]
theorem dec_drop {f : Bs} (h0 : f ≠ []) (x : UInt8) (hx : x.toNat < 128) : (f ++ [x]).drop (dec f).2 = f.drop (dec f).2 ++ [x] := by
  rw [List.drop_append_of_le_length (dec_le h0)]
theorem whole_snoc {f : Bs} (h0 : f ≠ []) (hf : ∀ y ∈ f, 128 ≤ y.toNat) (x : UInt8) (hx : x.toNat < 128) : whole (f ++ [x]) = true := by
  cases hw : whole (f ++ [x]) with
  | true => rfl
  | false =>
    have := wait_high hw x (by simp)
    omega
/-- What waits, and a byte below 80 behind it. -/
theorem read_flush : ∀ (n : Nat) (f : Bs), f.length ≤ n → (∀ y ∈ f, 128 ≤ y.toNat) → ∀ (x : UInt8), x.toNat < 128 → read (f ++ [x]) = ((runes f).map sgn ++ (read [x]).1, (read [x]).2) := by
  intro n
  induction n with
  | zero =>
    intro f h _ x _
    have : f = [] := List.eq_nil_of_length_eq_zero (by omega)
    subst this; rfl
  | succ n ih =>
    intro f h hf x hx
    by_cases h0 : f = []
    · subst h0; rfl
    have hw := whole_snoc h0 hf x hx
    have hs : ∀ y ∈ f, sig y := fun y hy => .inl (hf y hy)
    have hd := dec_snoc h0 x hx
    have hdd := dec_drop h0 x hx
    have hp := dec_pos f
    have hl : 0 < f.length := List.length_pos_iff.2 h0
    have h1 : oneR (f ++ [x]) = (sgn (dec f).1, (dec f).2) := by
      cases f with
      | nil => exact absurd rfl h0
      | cons y f =>
        have h2 := sig_one (f ++ [x]) (hs y (List.mem_cons_self ..))
        rw [List.cons_append] at hw hd ⊢
        rw [h2, hw, hd]; rfl
    rw [read_step (by simp) (by rw [h1]; dsimp only; omega), h1]
    dsimp only
    rw [hdd, ih _ (by rw [List.length_drop]; omega) (fun y hy => hf y (List.mem_of_mem_drop hy)) x hx, runes_cons h0]
    rfl
end Go.Proofs.YticaeflnpgbngaaDoor
namespace Go.Proofs.YticaeflnpgbngaaDoor
set_option linter.unusedVariables false
set_option linter.unusedSimpArgs false
/-- A decoder, and the bytes that wait. -/
structure Gr (d : Dc) : Prop where
  sq : d.sq = []
  mn : d.mn = 0
  tl : d.tl = []
inductive RelD (d : Dc) : Bs → Prop
  | gr (h : d.ph = 0) (g : Gr d) (w : whole d.f = false) : RelD d d.f
  | es (h : d.ph = 1) (g : Gr d) (f : d.f = []) : RelD d [27]
  | cs (h : d.ph = 2) (f : d.f = []) (t : d.tl = []) (p : Bs) (m : ∀ y ∈ p, mid y) (s : d.sq = p.take 16) (n : d.mn = p.length) : RelD d (27 :: 91 :: p)
  | ss (h : d.ph = 3) (g : Gr d) (f : d.f = []) : RelD d [27, 79]
  | pa (h : d.ph = 4) (f : d.f = []) (p : Bs) (n : d.mn = p.length) (s : d.sq = p.take 1200) (t : d.tl = p.drop (p.length - 6)) (e : ∀ k, ¬ endAt p k) : RelD d (begB ++ p)
theorem RelD.new : RelD Dc.new [] := .gr rfl ⟨rfl, rfl, rfl⟩ rfl
theorem Gr.to (d : Dc) (p : Nat) : Gr (d.to p) := ⟨rfl, rfl, rfl⟩
theorem Gr.of {d e : Dc} (h : Gr d) (h1 : e.sq = d.sq) (h2 : e.mn = d.mn) (h3 : e.tl = d.tl) : Gr e := ⟨h1.trans h.sq, h2.trans h.mn, h3.trans h.tl⟩
/-- The same tells, and leaves what waits in one's own way. -/
def Same2 (o : Out) (r : List KeyT × Bs) : Prop := o.1 = r.1 ∧ RelD o.2 r.2
theorem nsig_lt {x : UInt8} (h : ¬ sig x) : x.toNat < 32 ∨ x = 127 := by
  unfold sig at h
  by_cases h1 : x = 127
  · exact .inr h1
  · have h2 : x.toNat ≠ 127 := fun e => h1 (UInt8.toNat_inj.1 e)
    omega
theorem read_low {x : UInt8} (h : x.toNat < 32) (h27 : x ≠ 27) : read [x] = ([kb (lowK x)], []) := by
  have h1 : oneR [x] = (kb (lowK x), 1) := by
    unfold oneR
    dsimp only
    rw [if_neg h27, if_pos h]
  rw [read_step (by simp) (by rw [h1]; simp), h1]; rfl
theorem read_del : read [127] = ([kb 3], []) := by decide
theorem read_esc : read [27] = ([], [27]) := by decide
theorem first_rel {d : Dc} (h : d.ph = 0) (g : Gr d) (w : whole d.f = false) (x : UInt8) : Same2 (firstD d x) (read (d.f ++ [x])) := by
  unfold firstD
  by_cases hs : sig x
  · rw [if_pos hs, read_sig _ _ (Nat.le_refl _) (fun y hy => by
      rcases List.mem_append.1 hy with e | e
      · exact .inl (wait_high w y e)
      · rw [List.mem_singleton.1 e]; exact hs)]
    exact ⟨rfl, .gr h (g.of rfl rfl rfl) (drain_rest _)⟩
  · have hlt : x.toNat < 128 := by
      rcases nsig_lt hs with e | e
      · omega
      · rw [e]; decide
    rw [if_neg hs, read_flush _ d.f (Nat.le_refl _) (wait_high w) x hlt]
    by_cases h27 : x = 27
    · subst h27
      rw [if_pos rfl, read_esc]
      exact ⟨by simp, .es rfl (Gr.to _ _) rfl⟩
    · rw [if_neg h27]
      by_cases h127 : x = 127
      · subst h127
        rw [if_pos rfl, read_del]
        exact ⟨rfl, .gr (d := { d with f := [] }) h (g.of rfl rfl rfl) rfl⟩
      · rw [if_neg h127]
        have hl : x.toNat < 32 := by
          rcases nsig_lt hs with e | e
          · exact e
          · exact absurd e h127
        rw [read_low hl h27]
        exact ⟨rfl, .gr (d := { d with f := [] }) h (g.of rfl rfl rfl) rfl⟩
theorem first_new {d : Dc} (h : d.ph = 0) (g : Gr d) (f : d.f = []) (x : UInt8) : Same2 (firstD d x) (read [x]) := by
  have := first_rel h g (by rw [f]; rfl) x
  rwa [f] at this
theorem anew_rel {d : Dc} (f : d.f = []) (k : Nat) (x : UInt8) {b : Bs} {m : Nat} (h1 : oneR b = (kb k, m)) (h0 : b ≠ []) (hm : m ≠ 0) (h2 : b.drop m = [x]) : Same2 (anewD d k x) (read b) := by
  obtain ⟨a1, a2⟩ := first_new (d := d.to 0) rfl (Gr.to d 0) f x
  rw [read_step h0 (by rw [h1]; exact hm), h1]
  dsimp only
  rw [h2]
  exact ⟨by unfold anewD; rw [a1], a2⟩
theorem done_rel {d : Dc} (f : d.f = []) (K : KeyT) {b : Bs} {m : Nat} (h1 : oneR b = (K, m)) (h0 : b ≠ []) (hm : m ≠ 0) (h2 : b.drop m = []) : Same2 ([K], d.to 0) (read b) := by
  rw [read_step h0 (by rw [h1]; exact hm), h1]
  dsimp only
  rw [h2, read_nil]
  exact ⟨rfl, by
    have : RelD (d.to 0) (d.to 0).f := .gr rfl (Gr.to d 0) (by show whole d.f = false; rw [f]; rfl)
    rwa [show (d.to 0).f = [] from f] at this⟩
theorem one_esc (b : Bs) : oneR (27 :: b) = escR (27 :: b) := by
  unfold oneR
  dsimp only
  rw [if_pos rfl]
theorem behind_rel {d : Dc} (f : d.f = []) (x : UInt8) : Same2 (behindD d x) (read ([27] ++ [x])) := by
  unfold behindD
  have e1 : ([27] ++ [x] : Bs) = [27, x] := rfl
  rw [e1]
  have ho := one_esc [x]
  by_cases h1 : x = 91
  · subst h1
    rw [if_pos rfl]
    have : read [27, 91] = ([], [27, 91]) := by decide
    rw [this]
    exact ⟨rfl, .cs (d := d.to 2) rfl f rfl [] (by simp) rfl rfl⟩
  rw [if_neg h1]
  by_cases h2 : x = 79
  · subst h2
    rw [if_pos rfl]
    have : read [27, 79] = ([], [27, 79]) := by decide
    rw [this]
    exact ⟨rfl, .ss (d := d.to 3) rfl (Gr.to _ _) f⟩
  rw [if_neg h2]
  by_cases h3 : x.toNat < 32 ∨ 127 < x.toNat
  · rw [if_pos h3]
    have g1 : x ≠ 98 := by intro e; subst e; simp at h3
    have g2 : x ≠ 102 := by intro e; subst e; simp at h3
    have g3 : x ≠ 100 := by intro e; subst e; simp at h3
    have g4 : x ≠ 121 := by intro e; subst e; simp at h3
    have g5 : x ≠ 127 := by intro e; subst e; simp at h3
    have g6 : ¬ (32 ≤ x.toNat ∧ x.toNat < 127) := by omega
    have e : oneR [27, x] = (kb 27, 1) := by
      rw [ho]; unfold escR
      dsimp only
      rw [if_neg h1, if_neg h2, if_neg g1, if_neg g2, if_neg g3, if_neg g4, if_neg g5, if_neg g6]
    exact anew_rel f 27 x e (by simp) (by simp) rfl
  · rw [if_neg h3]
    have e : oneR [27, x] = (kb (letK x), 2) := by
      rw [ho]; unfold escR letK
      dsimp only
      rw [if_neg h1, if_neg h2]
      by_cases g1 : x = 98
      · simp [g1]
      by_cases g2 : x = 102
      · simp [g2]
      by_cases g3 : x = 100
      · simp [g3]
      by_cases g4 : x = 121
      · simp [g4]
      by_cases g5 : x = 127
      · simp [g5]
      have g7 : x.toNat ≠ 127 := fun e => g5 (UInt8.toNat_inj.1 e)
      have g6 : 32 ≤ x.toNat ∧ x.toNat < 127 := by omega
      rw [if_neg g1, if_neg g2, if_neg g3, if_neg g4, if_neg g5, if_pos g6, if_neg g1, if_neg g2, if_neg g3, if_neg g4, if_neg g5]
    exact done_rel f _ e (by simp) (by simp) rfl
theorem short_rel {d : Dc} (f : d.f = []) (x : UInt8) : Same2 (shortD d x) (read ([27, 79] ++ [x])) := by
  unfold shortD
  have e1 : ([27, 79] ++ [x] : Bs) = [27, 79, x] := rfl
  rw [e1]
  have ho := one_esc [79, x]
  by_cases h : fin x
  · rw [if_pos h]
    have e : oneR [27, 79, x] = (kb (arrK x), 3) := by
      rw [ho]; unfold escR
      dsimp only
      rw [if_neg (by decide), if_pos rfl, if_pos h]
    exact done_rel f _ e (by simp) (by simp) rfl
  · rw [if_neg h]
    have e : oneR [27, 79, x] = (kb 0, 2) := by
      rw [ho]; unfold escR
      dsimp only
      rw [if_neg (by decide), if_pos rfl, if_neg h]
    exact anew_rel f 0 x e (by simp) (by simp) rfl
end Go.Proofs.YticaeflnpgbngaaDoor
namespace Go.Proofs.YticaeflnpgbngaaDoor
set_option linter.unusedVariables false
set_option linter.unusedSimpArgs false
theorem midN_all : (p : Bs) → (∀ y ∈ p, mid y) → midN p = p.length
  | [], _ => rfl
  | y :: p, h => by
      rw [midN, if_pos (h y (List.mem_cons_self ..)), midN_all p fun z hz => h z (List.mem_cons_of_mem _ hz)]; rfl
theorem midN_snoc : (p : Bs) → (∀ y ∈ p, mid y) → {x : UInt8} → ¬ mid x → midN (p ++ [x]) = p.length
  | [], _, x, hx => by simp [midN, hx]
  | y :: p, h, x, hx => by
      rw [List.cons_append, midN, if_pos (h y (List.mem_cons_self ..)), midN_snoc p (fun z hz => h z (List.mem_cons_of_mem _ hz)) hx]; rfl
theorem not_mid126 : ¬ mid 126 := by decide
theorem isP_q (q : Bs) : isP (27 :: 91 :: q) = decide (q.take 4 = [50, 48, 48, 126]) := by
  unfold isP begB
  simp
theorem isP_mid {q : Bs} (h : ∀ y ∈ q, mid y) : isP (27 :: 91 :: q) = false := by
  rw [isP_q]
  refine decide_eq_false fun e => not_mid126 (h 126 ?_)
  have : (126 : UInt8) ∈ q.take 4 := by rw [e]; simp
  exact List.mem_of_mem_take this
theorem isP_fin {p : Bs} (h : ∀ y ∈ p, mid y) {x : UInt8} (hn : ¬ (x = 126 ∧ p = [50, 48, 48])) : isP (27 :: 91 :: (p ++ [x])) = false := by
  rw [isP_q]
  refine decide_eq_false fun e => ?_
  have hl : 3 ≤ p.length := by
    have := congrArg List.length e
    rw [List.length_take] at this
    simp at this; omega
  by_cases h4 : 4 ≤ p.length
  · rw [List.take_append_of_le_length h4] at e
    have : (126 : UInt8) ∈ p.take 4 := by rw [e]; simp
    exact not_mid126 (h 126 (List.mem_of_mem_take this))
  · have h3 : p.length = 3 := by omega
    rw [List.take_of_length_le (by simp; omega)] at e
    have e2 : p ++ [x] = [50, 48, 48] ++ [126] := e
    obtain ⟨e3, e4⟩ := List.append_inj e2 (by rw [h3]; rfl)
    exact hn ⟨by simpa using e4, e3⟩
theorem csiR_eq {q : Bs} (h : isP (27 :: 91 :: q) = false) : csiR (27 :: 91 :: q) = match q.drop (midN q) with
    | [] => (kb 0, 0)
    | x :: _ => if fin x then (if midN q = 0 then (kb (arrK x), 3) else (kb (btwK (q.take (midN q)) x), 2 + midN q + 1)) else (kb 0, 2 + midN q) := by
  unfold csiR
  rw [h, if_neg (by simp)]
  have e1 : (27 :: 91 :: q).drop 2 = q := rfl
  have e2 : (27 :: 91 :: q).drop (2 + midN q) = q.drop (midN q) := by rw [Nat.add_comm]; rfl
  rw [e1, e2]
  all_goals (cases q.drop (midN q) <;> rfl)
theorem one_csi (q : Bs) : oneR (27 :: 91 :: q) = csiR (27 :: 91 :: q) := by
  rw [one_esc]
  unfold escR
  dsimp only
  rw [if_pos rfl]
theorem told_eq {p : Bs} (x : UInt8) : toldK p x = if p = [] then arrK x else btwK p x := by
  unfold toldK btwK
  by_cases h0 : p = []
  · subst h0
    by_cases h1 : x = 126
    · subst h1; decide
    · rw [if_neg h1, if_pos rfl, if_pos rfl]
  · rw [if_neg h0, if_neg h0]
    by_cases h1 : x = 126
    · subst h1
      rw [if_pos rfl, if_neg (by rintro ⟨_, h⟩; exact absurd h (by decide)), if_neg (by rintro ⟨_, h⟩; exact absurd h (by decide)), if_neg (by simp)]
    · rw [if_neg h1, if_pos h1]
      by_cases h2 : s13 p <;> simp [h2]
theorem btw_long {p : Bs} (h : 16 < p.length) (x : UInt8) : btwK p x = 0 := by
  have h2 : ¬ s13 p := by
    unfold s13
    rintro (e | e) <;> (rw [e] at h; simp at h)
  have h3 : tilK p = 0 := by
    unfold tilK
    rw [if_neg (by rintro (e | e) <;> (rw [e] at h; simp at h)), if_neg (by rintro (e | e) <;> (rw [e] at h; simp at h)), if_neg (by intro e; rw [e] at h; simp at h)]
  unfold btwK
  rw [if_neg (fun k => h2 k.1), if_neg (fun k => h2 k.1), h3]
  simp
theorem take_snoc (p : Bs) (x : UInt8) (n : Nat) : (p ++ [x]).take n = if p.length + 1 ≤ n then p.take n ++ [x] else p.take n := by
  rw [List.take_append]
  split
  · rename_i h
    rw [List.take_of_length_le (show [x].length ≤ n - p.length by simp; omega)]
  · rename_i h
    rw [show n - p.length = 0 by omega]; simp
theorem seq_rel {d : Dc} (hp2 : d.ph = 2) (f : d.f = []) (t : d.tl = []) {p : Bs} (m : ∀ y ∈ p, mid y) (s : d.sq = p.take 16) (n : d.mn = p.length) (x : UInt8) : Same2 (seqD d x) (read ((27 :: 91 :: p) ++ [x])) := by
  unfold seqD
  have e1 : (27 :: 91 :: p) ++ [x] = 27 :: 91 :: (p ++ [x]) := rfl
  rw [e1]
  by_cases hm : mid x
  · have hall : ∀ y ∈ p ++ [x], mid y := fun y hy => by
      rcases List.mem_append.1 hy with e | e
      · exact m y e
      · rw [List.mem_singleton.1 e]; exact hm
    have ho : oneR (27 :: 91 :: (p ++ [x])) = (kb 0, 0) := by
      rw [one_csi, csiR_eq (isP_mid hall), midN_all _ hall, List.drop_length]
    rw [if_pos hm, read_wait (by rw [ho])]
    refine ⟨rfl, .cs (d := midD d x) ?_ f t (p ++ [x]) hall ?_ ?_⟩
    · exact hp2
    · show (if d.mn + 1 ≤ 16 then d.sq ++ [x] else d.sq) = _
      rw [take_snoc, n, s]
    · show d.mn + 1 = _
      rw [n]; simp
  · rw [if_neg hm]
    by_cases hf : fin x
    · rw [if_neg (by simpa using hf)]
      by_cases hb : x = 126 ∧ d.sq = [50, 48, 48]
      · rw [if_pos hb]
        have hp : p = [50, 48, 48] := by
          have h3 := hb.2
          rw [s] at h3
          have := congrArg List.length h3
          rw [List.length_take] at this
          simp at this
          rwa [List.take_of_length_le (by omega)] at h3
        rw [hp, hb.1]
        have : read (27 :: 91 :: ([50, 48, 48] ++ [126])) = ([], begB) := by decide
        rw [this]
        exact ⟨rfl, .pa (d := d.to 4) rfl f [] rfl rfl rfl (by intro k h; have := h.1; simp at this)⟩
      · rw [if_neg hb]
        have hn : ¬ (x = 126 ∧ p = [50, 48, 48]) := by
          rintro ⟨a, b⟩
          exact hb ⟨a, by rw [s, b]; rfl⟩
        have ho : oneR (27 :: 91 :: (p ++ [x])) = (if p.length = 0 then (kb (arrK x), 3) else (kb (btwK p x), 2 + p.length + 1)) := by
          rw [one_csi, csiR_eq (isP_fin m hn), midN_snoc p m hm, List.drop_left' rfl, List.take_left' rfl]
          dsimp only
          rw [if_pos hf]
        have hK : oneR (27 :: 91 :: (p ++ [x])) = (kb (toldK p x), p.length + 3) := by
          rw [ho, told_eq]
          cases p with
          | nil => rfl
          | cons y p => rw [if_neg (by simp), if_neg (by simp)]; congr 1; omega
        have hdr : (27 :: 91 :: (p ++ [x])).drop (p.length + 3) = [] := List.drop_eq_nil_of_le (by simp)
        by_cases hl : 16 < d.mn
        · rw [if_pos hl]
          rw [n] at hl
          rw [told_eq, if_neg (by intro e; rw [e] at hl; simp at hl), btw_long hl] at hK
          exact done_rel f _ hK (by simp) (by omega) hdr
        · rw [if_neg hl]
          rw [n] at hl
          rw [s, List.take_of_length_le (by omega)]
          exact done_rel f _ hK (by simp) (by omega) hdr
    · rw [if_pos hf]
      have h126 : ¬ (x = 126 ∧ p = [50, 48, 48]) := by
        rintro ⟨a, _⟩
        exact hf (by rw [a]; decide)
      have ho : oneR (27 :: 91 :: (p ++ [x])) = (kb 0, 2 + p.length) := by
        rw [one_csi, csiR_eq (isP_fin m h126), midN_snoc p m hm, List.drop_left' rfl]
        dsimp only
        rw [if_neg hf]
      exact anew_rel f 0 x ho (by simp) (by omega) (by rw [Nat.add_comm]; show (p ++ [x]).drop p.length = [x]; exact List.drop_left' rfl)
theorem endFrom_none {b : Bs} : {n k : Nat} → (∀ j, k ≤ j → j < k + n → ¬ endAt b j) → endFrom b n k = none
  | 0, k, _ => rfl
  | n + 1, k, h => by
      rw [endFrom, if_neg (h k (Nat.le_refl _) (by omega))]
      exact endFrom_none fun j h1 h2 => h j (by omega) (by omega)
theorem endFrom_some {b : Bs} {a : Nat} (ha : endAt b a) : {n k : Nat} → k ≤ a → a < k + n → (∀ j, k ≤ j → j < a → ¬ endAt b j) → endFrom b n k = some a
  | 0, k, h1, h2, _ => by omega
  | n + 1, k, h1, h2, h => by
      by_cases e : k = a
      · subst e; rw [endFrom, if_pos ha]
      · rw [endFrom, if_neg (h k (Nat.le_refl _) (by omega))]
        exact endFrom_some ha (by omega) (by omega) fun j h3 h4 => h j (by omega) h4
theorem endAt_beg (q : Bs) (j : Nat) : endAt (begB ++ q) (6 + j) ↔ endAt q j := by
  unfold endAt
  have e : (begB ++ q).drop (6 + j) = q.drop j := by
    rw [← List.drop_drop]; rfl
  rw [e, List.length_append, show begB.length = 6 from rfl]
  constructor
  · rintro ⟨a, b⟩; exact ⟨by omega, b⟩
  · rintro ⟨a, b⟩; exact ⟨by omega, b⟩
theorem endAt_snoc {p : Bs} (h : ∀ k, ¬ endAt p k) (x : UInt8) {k : Nat} (hk : k + 6 ≤ p.length) : ¬ endAt (p ++ [x]) k := by
  rintro ⟨h1, h2⟩
  rw [List.drop_append_of_le_length (by omega), List.take_append_of_le_length (by rw [List.length_drop]; omega)] at h2
  exact h k ⟨hk, h2⟩
theorem isP_beg (q : Bs) : isP (begB ++ q) = true := by
  unfold isP
  exact decide_eq_true (List.take_left' rfl)
theorem one_beg (q : Bs) : oneR (begB ++ q) = match endOf (begB ++ q) 6 with
    | none => (kb 0, 0)
    | some a => (⟨26, pl ((q.take (a - 6)).take 1200)⟩, a + 6) := by
  have e : begB ++ q = 27 :: 91 :: ([50, 48, 48, 126] ++ q) := rfl
  rw [e, one_csi, ← e]
  unfold csiR
  rw [isP_beg, if_pos rfl]
  have e2 : (begB ++ q).drop 6 = q := List.drop_left' rfl
  rw [e2]
  all_goals (cases endOf (begB ++ q) 6 <;> rfl)
theorem last_snoc (p : Bs) (x : UInt8) : (p.drop (p.length - 6) ++ [x]).drop ((p.drop (p.length - 6) ++ [x]).length - 6) = (p ++ [x]).drop ((p ++ [x]).length - 6) := by
  have hl : (p.drop (p.length - 6) ++ [x]).length = min p.length 6 + 1 := by simp; omega
  rw [hl, List.length_append, List.length_singleton]
  by_cases h : p.length < 6
  · rw [show p.length - 6 = 0 by omega, List.drop_zero, show min p.length 6 + 1 - 6 = p.length + 1 - 6 by omega]
  · rw [show min p.length 6 + 1 - 6 = 1 by omega, List.drop_append_of_le_length (by rw [List.length_drop]; omega), List.drop_drop, List.drop_append_of_le_length (by omega)]
    congr 2; omega
theorem pasted_rel {d : Dc} (hp4 : d.ph = 4) (f : d.f = []) {p : Bs} (n : d.mn = p.length) (s : d.sq = p.take 1200) (t : d.tl = p.drop (p.length - 6)) (e : ∀ k, ¬ endAt p k) (x : UInt8) : Same2 (pastedD d x) (read ((begB ++ p) ++ [x])) := by
  obtain ⟨q, hq⟩ : ∃ q, q = p ++ [x] := ⟨_, rfl⟩
  have hql : q.length = p.length + 1 := by rw [hq]; simp
  have ht : (pasteD d x).tl = q.drop (q.length - 6) := by
    show (d.tl ++ [x]).drop ((d.tl ++ [x]).length - 6) = _
    rw [t, last_snoc, hq]
  have hs : (pasteD d x).sq = q.take 1200 := by
    show (if d.mn + 1 ≤ 1200 then d.sq ++ [x] else d.sq) = _
    rw [hq, take_snoc, n, s]
  rw [List.append_assoc, ← hq]
  unfold pastedD
  rw [ht, hs]
  have hno : ∀ j, j + 6 ≤ p.length → ¬ endAt q j := fun j hj => by rw [hq]; exact endAt_snoc e x hj
  have hbl : (begB ++ q).length - 6 = q.length := by rw [List.length_append, show begB.length = 6 from rfl]; omega
  by_cases he : q.drop (q.length - 6) = endB
  · rw [if_pos he]
    have h6 : 6 ≤ q.length := by
      have := congrArg List.length he
      rw [List.length_drop, show endB.length = 6 from rfl] at this
      omega
    have hat : endAt q (q.length - 6) := ⟨by omega, by rw [List.take_of_length_le (by rw [List.length_drop]; omega)]; exact he⟩
    have hof : endOf (begB ++ q) 6 = some (6 + (q.length - 6)) := by
      unfold endOf
      rw [hbl]
      refine endFrom_some ((endAt_beg _ _).2 hat) (by omega) (by omega) fun j h1 h2 => ?_
      rw [show j = 6 + (j - 6) by omega, endAt_beg]
      exact hno _ (by omega)
    have ho := one_beg q
    rw [hof] at ho
    dsimp only at ho
    rw [show 6 + (q.length - 6) - 6 = q.length - 6 by omega, List.take_take] at ho
    rw [List.take_take, n, show min (min (p.length + 1 - 6) 1200) 1200 = min 1200 (q.length - 6) by omega]
    exact done_rel f _ ho (by simp [begB]) (by omega) (List.drop_eq_nil_of_le (by rw [List.length_append, show begB.length = 6 from rfl]; omega))
  · rw [if_neg he]
    have hno2 : ∀ k, ¬ endAt q k := fun k hk => by
      have h1 := hk.1
      by_cases h2 : k + 6 ≤ p.length
      · exact hno k h2 hk
      · have h3 : k = q.length - 6 := by omega
        subst h3
        have h4 := hk.2
        rw [List.take_of_length_le (by rw [List.length_drop]; omega)] at h4
        exact he h4
    have hof : endOf (begB ++ q) 6 = none := by
      unfold endOf
      rw [hbl]
      refine endFrom_none fun j h1 h2 => ?_
      rw [show j = 6 + (j - 6) by omega, endAt_beg]
      exact hno2 _
    have ho := one_beg q
    rw [hof] at ho
    rw [read_wait (by rw [ho])]
    exact ⟨rfl, .pa (d := pasteD d x) hp4 f q (by show d.mn + 1 = _; omega) hs ht hno2⟩
theorem put_rel {d : Dc} {b : Bs} (h : RelD d b) (x : UInt8) : Same2 (putD d x) (putR b x) := by
  unfold putD
  rw [putR_eq]
  cases h with
  | gr h g w =>
    rw [if_neg (by omega), if_neg (by omega), if_neg (by omega), if_neg (by omega)]
    exact first_rel (d := { d with ag := 0 }) h (g.of rfl rfl rfl) w x
  | es h g f =>
    rw [if_pos h]
    exact behind_rel (d := { d with ag := 0 }) f x
  | cs h f t p m s n =>
    rw [if_neg (by omega), if_pos h]
    exact seq_rel (d := { d with ag := 0 }) h f t m s n x
  | ss h g f =>
    rw [if_neg (by omega), if_neg (by omega), if_pos h]
    exact short_rel (d := { d with ag := 0 }) f x
  | pa h f p n s t e =>
    rw [if_neg (by omega), if_neg (by omega), if_neg (by omega), if_pos h]
    exact pasted_rel (d := { d with ag := 0 }) h f n s t e x
end Go.Proofs.YticaeflnpgbngaaDoor
namespace Go.Proofs.YticaeflnpgbngaaDoor
set_option linter.unusedVariables false
set_option linter.unusedSimpArgs false
/-! Ticks. -/
def tickR (b : Bs) (age : Nat) : List KeyT × Bs × Nat :=
  if b = [] ∨ isP b = true then ([], b, age)
  else if age = 0 then ([], b, 1)
  else if b = [27] then ([kb 27], [], 0)
  else if b.head? = some 27 then ([kb 0], [], 0)
  else ((runes b).map sgn, [], 0)
theorem waits_iff {d : Dc} {b : Bs} (h : RelD d b) : waitsD d = decide (b ≠ []) := by
  unfold waitsD
  cases h with
  | gr h g w =>
    rw [h]
    by_cases e : d.f = []
    · rw [e]; rfl
    · rw [decide_eq_true (List.length_pos_iff.2 e), decide_eq_true e]; rfl
  | es h g f => rw [h]; rfl
  | cs h f t p m s n => rw [h]; rfl
  | ss h g f => rw [h]; rfl
  | pa h f p n s t e => rw [h]; rfl
theorem isP_short {b : Bs} (h : b.length < 6) : isP b = false := by
  unfold isP
  refine decide_eq_false fun e => ?_
  have := congrArg List.length e
  rw [List.length_take, show begB.length = 6 from rfl] at this
  omega
theorem paste_iff {d : Dc} {b : Bs} (h : RelD d b) : decide (d.ph = 4) = isP b := by
  cases h with
  | gr h g w =>
    rw [h, isP_short (by have := part_le w; omega)]; rfl
  | es h g f => rw [h]; rfl
  | cs h f t p m s n => rw [h, isP_mid m]; rfl
  | ss h g f => rw [h]; rfl
  | pa h f p n s t e => rw [h, isP_beg]; rfl
theorem head_high {l : Bs} (w : whole l = false) : l.head? ≠ some 27 := by
  intro e
  cases l with
  | nil => cases e
  | cons x l =>
    have := wait_high w x (List.mem_cons_self ..)
    simp at e
    subst e
    simp at this
/-- A tick tells what the document says, and leaves what waits. -/
theorem tick_rel {d : Dc} {b : Bs} (h : RelD d b) (ha : d.ag ≤ 1) : (tickD d).1 = (tickR b d.ag).1 ∧ RelD (tickD d).2 (tickR b d.ag).2.1 ∧ (tickD d).2.ag = (tickR b d.ag).2.2 := by
  have h1 := waits_iff h
  have h2 := paste_iff h
  unfold tickD tickR
  by_cases hw : b = []
  · have : waitsD d = false := by rw [h1, hw]; rfl
    rw [if_pos (.inl this), if_pos (.inl hw)]
    exact ⟨rfl, h, rfl⟩
  by_cases hp : isP b = true
  · rw [hp] at h2
    rw [if_pos (.inr (of_decide_eq_true h2)), if_pos (.inr hp)]
    exact ⟨rfl, h, rfl⟩
  have hw2 : waitsD d = true := by rw [h1]; exact decide_eq_true hw
  have hp2 : d.ph ≠ 4 := fun e => hp (by rw [← h2]; exact decide_eq_true e)
  have n1 : ¬ (waitsD d = false ∨ d.ph = 4) := by
    rintro (e | e)
    · rw [hw2] at e; cases e
    · exact hp2 e
  have n2 : ¬ (b = [] ∨ isP b = true) := by
    rintro (e | e)
    · exact hw e
    · exact hp e
  rw [if_neg n1, if_neg n2]
  by_cases h0 : d.ag = 0
  · have n3 : d.ag + 1 < 2 := by omega
    rw [if_pos n3, if_pos h0]
    refine ⟨rfl, ?_, by show d.ag + 1 = 1; omega⟩
    cases h with
    | gr h g w => exact .gr (d := { d with ag := d.ag + 1 }) h (g.of rfl rfl rfl) w
    | es h g f => exact .es (d := { d with ag := d.ag + 1 }) h (g.of rfl rfl rfl) f
    | cs h f t p m s n => exact .cs (d := { d with ag := d.ag + 1 }) h f t p m s n
    | ss h g f => exact .ss (d := { d with ag := d.ag + 1 }) h (g.of rfl rfl rfl) f
    | pa h f p n s t e => exact .pa (d := { d with ag := d.ag + 1 }) h f p n s t e
  · have n3 : ¬ d.ag + 1 < 2 := by omega
    rw [if_neg n3, if_neg h0]
    have hz : ∀ e : Dc, e.f = [] → RelD (e.to 0) [] := fun e he => by
      have : RelD (e.to 0) (e.to 0).f := .gr rfl (Gr.to e 0) (by show whole e.f = false; rw [he]; rfl)
      rwa [show (e.to 0).f = [] from he] at this
    cases h with
    | gr h g w =>
      have n4 : d.f ≠ [27] := by intro e; exact head_high w (by rw [e]; rfl)
      rw [if_pos h, if_neg n4, if_neg (head_high w)]
      exact ⟨rfl, hz { d with ag := 0, f := [] } rfl, rfl⟩
    | es h g f =>
      have n4 : d.ph ≠ 0 := by rw [h]; decide
      rw [if_neg n4, if_pos h, if_pos rfl]
      exact ⟨rfl, hz { d with ag := 0 } f, rfl⟩
    | cs h f t p m s n =>
      have n4 : d.ph ≠ 0 := by rw [h]; decide
      have n5 : d.ph ≠ 1 := by rw [h]; decide
      have n6 : (27 :: 91 :: p : Bs) ≠ [27] := by simp
      have n7 : (27 :: 91 :: p : Bs).head? = some 27 := rfl
      rw [if_neg n4, if_neg n5, if_neg n6, if_pos n7]
      exact ⟨rfl, hz { d with ag := 0 } f, rfl⟩
    | ss h g f =>
      have n4 : d.ph ≠ 0 := by rw [h]; decide
      have n5 : d.ph ≠ 1 := by rw [h]; decide
      have n6 : ([27, 79] : Bs) ≠ [27] := by simp
      have n7 : ([27, 79] : Bs).head? = some 27 := rfl
      rw [if_neg n4, if_neg n5, if_neg n6, if_pos n7]
      exact ⟨rfl, hz { d with ag := 0 } f, rfl⟩
    | pa h f p n s t e => exact absurd h hp2
end Go.Proofs.YticaeflnpgbngaaDoor
namespace Go.Proofs.YticaeflnpgbngaaDoor
set_option linter.unusedVariables false
set_option linter.unusedSimpArgs false
/-! What the laws of chapter 04 ask, in plain Lean. -/
theorem feedD_app (d : Dc) : (a b : Bs) → feedD d (a ++ b) = ((feedD d a).1 ++ (feedD (feedD d a).2 b).1, (feedD (feedD d a).2 b).2)
  | [], b => by simp [feedD]
  | x :: a, b => by
      rw [List.cons_append, feedD, feedD_app (putD d x).2 a b, feedD]
      simp
theorem feedD_one (d : Dc) (x : UInt8) : feedD d [x] = putD d x := by simp [feedD]
theorem feed_rel : (b : Bs) → {d : Dc} → {c : Bs} → RelD d c → ∃ c', RelD (feedD d b).2 c'
  | [], d, c, h => ⟨c, h⟩
  | x :: b, d, c, h => feed_rel b (put_rel h x).2
theorem put_ag (d : Dc) (x : UInt8) : (putD d x).2.ag = 0 := by
  have hf : ∀ (d : Dc) (x : UInt8), d.ag = 0 → (firstD d x).2.ag = 0 := fun d x h => by
    unfold firstD
    split
    · exact h
    · split
      · exact h
      · split <;> exact h
  have ha : ∀ (d : Dc) (k : Nat) (x : UInt8), d.ag = 0 → (anewD d k x).2.ag = 0 := fun d k x h => hf _ x h
  unfold putD
  split
  · unfold behindD
    split
    · rfl
    · split
      · rfl
      · split
        · exact ha _ _ _ rfl
        · rfl
  · split
    · unfold seqD
      split
      · rfl
      · split
        · exact ha _ _ _ rfl
        · split
          · rfl
          · split <;> rfl
    · split
      · unfold shortD
        split
        · rfl
        · exact ha _ _ _ rfl
      · split
        · unfold pastedD
          split <;> rfl
        · exact hf _ _ rfl
theorem feed_ag : (b : Bs) → {d : Dc} → d.ag = 0 → (feedD d b).2.ag = 0
  | [], d, h => h
  | x :: b, d, h => feed_ag b (put_ag d x)
/-- Nothing waits: the decoder is as a new one, but for its age. -/
theorem rel_nil' {d : Dc} {b : Bs} (h : RelD d b) (hb : b = []) : d.ph = 0 ∧ d.f = [] ∧ Gr d := by
  cases h with
  | gr h g w => exact ⟨h, hb, g⟩
  | es h g f => cases hb
  | cs h f t p m s n => cases hb
  | ss h g f => cases hb
  | pa h f p n s t e => cases hb
theorem rel_nil {d : Dc} (h : RelD d []) : d.ph = 0 ∧ d.f = [] ∧ Gr d := rel_nil' h rfl
theorem put_new {d : Dc} (h : RelD d []) (x : UInt8) : putD d x = putD Dc.new x := by
  obtain ⟨h1, h2, g1, g2, g3⟩ := rel_nil h
  obtain ⟨ph, f, sq, mn, tl, ag⟩ := d
  simp only at h1 h2 g1 g2 g3
  subst h1; subst h2; subst g1; subst g2; subst g3
  rfl
theorem tick_none {d : Dc} (h : waitsD d = false ∨ d.ph = 4) : (tickD d).1 = [] := by
  unfold tickD
  rw [if_pos h]
/-- Behind two ticks nothing waits but a paste; a third one tells nothing. -/
theorem ends_law {d : Dc} {b : Bs} (h : RelD d b) (ha : d.ag = 0) : waitsD (tickD (tickD d).2).2 = decide ((tickD (tickD d).2).2.ph = 4) ∧ (tickD (tickD (tickD d).2).2).1 = [] := by
  obtain ⟨_, r1, a1⟩ := tick_rel h (by omega)
  have hle : (tickD d).2.ag ≤ 1 := by
    rw [a1, ha]; unfold tickR
    split
    · simp
    · rw [if_pos rfl]; exact Nat.le_refl _
  obtain ⟨_, r2, a2⟩ := tick_rel r1 hle
  have hb : (tickR b d.ag).2.1 = b := by
    rw [ha]; unfold tickR
    split
    · rfl
    · rw [if_pos rfl]
  rw [hb] at r1 r2 a2
  have hend : (tickR b (tickD d).2.ag).2.1 = [] ∨ isP (tickR b (tickD d).2.ag).2.1 = true := by
    by_cases hc : b = [] ∨ isP b = true
    · unfold tickR
      rw [if_pos hc]
      exact hc
    · have h1 : (tickD d).2.ag = 1 := by
        rw [a1, ha]; unfold tickR
        rw [if_neg hc, if_pos rfl]
      rw [h1]
      unfold tickR
      rw [if_neg hc, if_neg (by decide)]
      left
      split
      · rfl
      · split <;> rfl
  have hw := waits_iff r2
  have hp := paste_iff r2
  rw [hw, hp]
  have hw9 : waitsD (tickD (tickD d).2).2 = false ∨ (tickD (tickD d).2).2.ph = 4 := by
    rcases hend with e | e
    · left; rw [hw, e]; rfl
    · right; rw [e] at hp; exact of_decide_eq_true hp
  constructor
  · rcases hend with e | e
    · rw [e]; rfl
    · rw [e]
      exact decide_eq_true fun e2 => by rw [e2] at e; cases e
  · exact tick_none hw9
/-- A key that may be told. -/
def OkK (q : KeyT) : Prop := q.k ≤ 27 ∧ (q.k = 1 → (runes q.t).length = 1) ∧ (q.k ≠ 1 → q.k ≠ 26 → q.t = [])
theorem ok_kb {k : Nat} (h : k ≤ 27) (h1 : k ≠ 1) : OkK (kb k) := ⟨h, fun e => absurd e h1, fun _ _ => rfl⟩
theorem runes_enc1 {r : Nat} (h : Utf8.valid (r : Int) = true) : (runes (enc r)).length = 1 := by
  have h9 := runes_enc [r] (fun q hq => by rw [List.mem_singleton.1 hq]; exact h) []
  rw [runes_nil, List.append_nil, List.append_nil, List.flatMap_cons, List.flatMap_nil, List.append_nil] at h9
  rw [h9]; rfl
theorem ok_one {t : Bs} (h : (runes t).length = 1) : OkK ⟨1, t⟩ := ⟨show (1 : Nat) ≤ 27 by omega, fun _ => h, fun e => absurd rfl e⟩
theorem ok_sgn {r : Nat} (h : Utf8.valid (r : Int) = true) : OkK (sgn r) := by
  have h1 := runes_enc1 h
  clear h
  unfold sgn
  cases ctl (r : Int) with
  | true => rw [if_pos rfl]; exact ok_kb (by decide) (by decide)
  | false => rw [if_neg (by decide)]; exact ok_one h1
theorem drain_val (l : Bs) : ∀ r ∈ (drain l).1, Utf8.valid (r : Int) = true := fun r hr => by
  have := drain_runes l []
  rw [List.append_nil] at this
  exact runes_val l r (by rw [this]; exact List.mem_append.2 (.inl hr))
theorem low_ok (x : UInt8) : lowK x ≤ 27 ∧ lowK x ≠ 1 := by
  unfold lowK
  by_cases h : x.toNat < 32
  · have : ∀ n, n < 32 → lowT.getD n 0 ≤ 27 ∧ lowT.getD n 0 ≠ 1 := by decide
    exact this _ h
  · rw [List.getD_eq_getElem?_getD, List.getElem?_eq_none (by simp [lowT]; omega)]; simp
theorem first_ok (d : Dc) (x : UInt8) : ∀ q ∈ (firstD d x).1, OkK q := by
  have hm : ∀ l : List Nat, (∀ r ∈ l, Utf8.valid (r : Int) = true) → ∀ q ∈ l.map sgn, OkK q := fun l h q hq => by
    obtain ⟨r, hr, rfl⟩ := List.mem_map.1 hq
    exact ok_sgn (h r hr)
  unfold firstD
  split
  · exact hm _ (drain_val _)
  · split
    · exact hm _ (runes_val _)
    · split
      · intro q hq
        rcases List.mem_append.1 hq with e | e
        · exact hm _ (runes_val _) q e
        · rw [List.mem_singleton.1 e]; exact ok_kb (by omega) (by omega)
      · intro q hq
        rcases List.mem_append.1 hq with e | e
        · exact hm _ (runes_val _) q e
        · rw [List.mem_singleton.1 e]; exact ok_kb (low_ok x).1 (low_ok x).2
end Go.Proofs.YticaeflnpgbngaaDoor
