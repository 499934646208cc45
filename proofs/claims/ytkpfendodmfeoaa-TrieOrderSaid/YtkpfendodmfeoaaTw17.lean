import Derived.Test.YtkpfendodmfeoaaTw16
namespace Go.Proofs.Ytkpfendodmfeoaa
set_option linter.unusedVariables false
set_option linter.unusedSimpArgs false
open Go.RowKit
theorem prefix_iff (a b : Bs) : b <+: a ↔ b.length ≤ a.length ∧ a.take b.length = b := by
  constructor
  · rintro ⟨t, rfl⟩
    exact ⟨by simp, by simp⟩
  · rintro ⟨_, h⟩
    exact ⟨a.drop b.length, by conv => lhs; lhs; rw [← h]
                               rw [List.take_append_drop]⟩
theorem hasPrefixL_calls (a b : Bs) (s t : ByteArray) (hs : s = ⟨a.toArray⟩) (ht : t = ⟨b.toArray⟩) (ha : a.length ≤ 4294967296) (hb : b.length ≤ 4294967296) (w : World) :
    Calls Try.prog 47 #[.string s, .string t] w fun e w' => e = .returned (.bool (decide (b <+: a))) ∧ w = w' := by
  have hsz : s.size = a.length := by rw [hs, str_of]
  have htz : t.size = b.length := by rw [ht, str_of]
  have hx := extract_eq a 0 b.length
  rw [← hs, List.drop_zero] at hx
  by_cases hl : b.length ≤ a.length
  · have i1 : (t.size : Int) ≤ (s.size : Int) := by omega
    have hbe : ((s.extract 0 b.length).toList == t.toList) = decide (b <+: a) := by
      rw [hx, ht, str_beq rfl rfl, Bool.eq_iff_iff]
      simp [prefix_iff, hl]
    have HB := Lib.hid hbe
    have HS := Lib.hid hs
    have HT := Lib.hid ht
    clear hs ht hx hbe
    go_enter Try.func47, Try.ntmps47
    go_wp2
    go_ret
    exact ⟨by rw [← HB.out]; rfl, rfl⟩
  · have i1 : ¬ (t.size : Int) ≤ (s.size : Int) := by omega
    have hbe : decide (b <+: a) = false := decide_eq_false fun h => hl ((prefix_iff a b).1 h).1
    have HB := Lib.hid hbe
    have HS := Lib.hid hs
    have HT := Lib.hid ht
    clear hs ht hx hbe
    go_enter Try.func47, Try.ntmps47
    go_wp2
    go_ret
    exact ⟨by rw [HB.out]; rfl, rfl⟩
theorem hasPrefix_calls (a b : Bs) (s t : ByteArray) (hs : s = ⟨a.toArray⟩) (ht : t = ⟨b.toArray⟩) (ha : a.length ≤ 4294967296) (hb : b.length ≤ 4294967296) (w : World) :
    Calls Try.prog 37 #[.string s, .string t] w fun e w' => e = .returned (.bool (decide (b <+: a))) ∧ w = w' := by
  have HC := Lib.hid (hasPrefixL_calls a b s t hs ht ha hb w)
  clear hs ht
  go_enter Try.func37, Try.ntmps37
  go_wp2_with fail
  refine HC.out.mono ?_
  rintro e w' ⟨rfl, rfl⟩
  go_wp2
  go_ret
  exact ⟨rfl, rfl⟩
theorem F.kid_of {c : Nat} : {f : F V} → {q : Bs × V} → {y : Nd V} → f.WF → q ∈ f.ents → f.nth (f.idx c) = some y → hd y.edge = c → hd q.1 = c → q ∈ pre y.edge y.ents
  | .nil, _, _, _, h, _, _, _ => by simp [F.ents] at h
  | .cons e i v m k r, q, y, ⟨h1, h2, h3, h4⟩, hq, hy, hye, hqc => by
      unfold F.idx at hy
      rw [F.ents] at hq
      split at hy
      · rename_i hlt
        rcases List.mem_append.1 hq with h | h
        · have := (pre_hd h1 h).2; omega
        · exact F.kid_of (f := r) h4 h hy hye hqc
      · rename_i hge
        simp only [F.nth] at hy
        cases hy
        rcases List.mem_append.1 hq with h | h
        · exact h
        · have := (F.rest_lt h1 h2 h4.ord q h).2
          dsimp only at hye
          omega
theorem F.mem_kid {f : F V} {j : Nat} {y : Nd V} (h : f.nth j = some y) {q : Bs × V} (hq : q ∈ y.ents) : (y.edge ++ q.1, q.2) ∈ f.ents := by
  induction f generalizing j with
  | nil => simp [F.nth] at h
  | cons e i v m k r _ ihr =>
    rw [F.ents]
    cases j with
    | zero => simp only [F.nth] at h; cases h; exact List.mem_append_left _ (List.mem_map.2 ⟨q, hq, rfl⟩)
    | succ j => exact List.mem_append_right _ (ihr h)
/-- The longest key that a text begins with: how long it is. -/
def LgOf (l : Ents V) (s : Bs) (o : Option Nat) : Prop :=
  match o with
  | none => ∀ q ∈ l, ¬ q.1 <+: s
  | some n => n ≤ s.length ∧ (∃ q ∈ l, q.1 = s.take n) ∧ ∀ q ∈ l, q.1 <+: s → q.1.length ≤ n
/-- What is known on the way down. -/
structure LgInv (l : Ents V) (s : Bs) (o : Option Nat) (k : Nat) (x : Nd V) : Prop where
  le : k ≤ s.length
  wf : x.kids.WF
  down : ∀ q ∈ l, q.1 <+: s → (∃ n, o = some n ∧ q.1.length ≤ n) ∨ ∃ q' ∈ x.kids.ents, q.1 = s.take k ++ q'.1
  best : ∀ n, o = some n → n ≤ k ∧ ∃ q ∈ l, q.1 = s.take n
  up : ∀ q' ∈ x.kids.ents, ∃ q ∈ l, q.1 = s.take k ++ q'.1
theorem LgInv.start {x : Nd V} (hG : Good zeroV x) (s : Bs) : LgInv x.ents s (if x.is then some 0 else none) 0 x := by
  refine ⟨Nat.zero_le _, hG.wf, fun q hq _ => ?_, fun n h => ?_, fun q' hq => ⟨q', List.mem_append_right _ hq, by simp⟩⟩
  · rcases List.mem_append.1 hq with h | h
    · unfold Go.Proofs.Ytkpfendodmfeoaa.own at h
      split at h
      · rename_i hi
        rw [hi]
        exact .inl ⟨0, rfl, by rw [List.mem_singleton.1 h]; simp⟩
      · cases h
    · exact .inr ⟨q, h, by simp⟩
  · split at h
    · rename_i hi
      cases h
      exact ⟨Nat.le_refl _, ([], x.v), List.mem_append_left _ (by rw [hi]; exact List.mem_singleton.2 rfl), by simp⟩
    · cases h
/-- Where nothing goes on. -/
theorem LgInv.stop {l : Ents V} {s : Bs} {o : Option Nat} {k : Nat} {x : Nd V} (h : LgInv l s o k x) (hno : ∀ q' ∈ x.kids.ents, ¬ q'.1 <+: s.drop k) : LgOf l s o := by
  have key : ∀ q ∈ l, q.1 <+: s → ∃ n, o = some n ∧ q.1.length ≤ n := fun q hq hp => by
    rcases h.down q hq hp with h1 | ⟨q', h1, h2⟩
    · exact h1
    · exfalso
      apply hno q' h1
      rw [h2] at hp
      conv at hp => rhs; rw [← List.take_append_drop k s]
      exact (List.prefix_append_right_inj _).1 hp
  cases o with
  | none => exact fun q hq hp => by obtain ⟨n, e, _⟩ := key q hq hp; cases e
  | some n =>
    obtain ⟨a, b⟩ := h.best n rfl
    exact ⟨Nat.le_trans a h.le, b, fun q hq hp => by obtain ⟨m, e, h⟩ := key q hq hp; cases e; exact h⟩
theorem LgInv.next {l : Ents V} {s : Bs} {o : Option Nat} {k : Nat} {x y : Nd V} (h : LgInv l s o k x) (hk : k < s.length) (hy : x.kids.nth (x.kids.idx (hd (s.drop k))) = some y) (hh : hd y.edge = hd (s.drop k)) (hp : y.edge <+: s.drop k) :
    LgInv l s (if y.is then some (k + y.edge.length) else o) (k + y.edge.length) y := by
  obtain ⟨t, ht⟩ := hp
  have hel : y.edge.length + t.length = s.length - k := by have := congrArg List.length ht; simpa using this
  have htk : s.take (k + y.edge.length) = s.take k ++ y.edge := by
    rw [List.take_add, ← ht]; simp
  obtain ⟨hye, hyW⟩ := h.wf.nth hy
  refine ⟨by omega, hyW, fun q hq hp => ?_, fun n hn => ?_, fun q' hq => ?_⟩
  · rcases h.down q hq hp with ⟨n, e, h1⟩ | ⟨q', h1, h2⟩
    · left
      split
      · exact ⟨_, rfl, by have := (h.best n e).1; omega⟩
      · exact ⟨n, e, h1⟩
    · have hp2 : q'.1 <+: s.drop k := by
        rw [h2] at hp
        conv at hp => rhs; rw [← List.take_append_drop k s]
        exact (List.prefix_append_right_inj _).1 hp
      have hne := (F.ents_hd h.wf.ord q' h1).1
      have hq := F.kid_of h.wf h1 hy hh (prefix_hd hne hp2)
      obtain ⟨q2, hq2, rfl⟩ := List.mem_map.1 hq
      dsimp only at h2
      rcases List.mem_append.1 hq2 with h3 | h3
      · unfold Go.Proofs.Ytkpfendodmfeoaa.own at h3
        split at h3
        · rename_i hi
          left
          rw [hi]
          refine ⟨_, rfl, ?_⟩
          rw [List.mem_singleton.1 h3] at h2
          rw [h2]
          simp
          omega
        · cases h3
      · right
        exact ⟨q2, h3, by rw [h2, htk, List.append_assoc]⟩
  · split at hn
    · rename_i hi
      cases hn
      have : (([], y.v) : Bs × V) ∈ y.ents := List.mem_append_left _ (by rw [hi]; exact List.mem_singleton.2 rfl)
      obtain ⟨q, h1, h2⟩ := h.up _ (F.mem_kid hy this)
      exact ⟨Nat.le_refl _, q, h1, by rw [h2, htk]; simp⟩
    · obtain ⟨a, b⟩ := h.best n hn
      exact ⟨by omega, b⟩
  · obtain ⟨q, h1, h2⟩ := h.up _ (F.mem_kid hy (List.mem_append_right _ hq))
    exact ⟨q, h1, by rw [h2, htk, List.append_assoc]⟩
theorem LgInv.none_has {l : Ents V} {s : Bs} {o : Option Nat} {k : Nat} {x : Nd V} (h : LgInv l s o k x) (hno : x.kids.has (hd (s.drop k)) = false) : LgOf l s o :=
  h.stop fun q' hq hp => by
    obtain ⟨a, n, j, b, c⟩ := F.ents_hd h.wf.ord q' hq
    have := prefix_hd a hp
    have h2 := F.has_of h.wf.ord b (by rw [← c, this])
    rw [hno] at h2; cases h2
theorem LgInv.not_edge {l : Ents V} {s : Bs} {o : Option Nat} {k : Nat} {x y : Nd V} (h : LgInv l s o k x) (hy : x.kids.nth (x.kids.idx (hd (s.drop k))) = some y) (hh : hd y.edge = hd (s.drop k)) (hp : ¬ y.edge <+: s.drop k) : LgOf l s o :=
  h.stop fun q' hq hp2 => by
    have hne := (F.ents_hd h.wf.ord q' hq).1
    have h1 := F.kid_of h.wf hq hy hh (prefix_hd hne hp2)
    obtain ⟨q2, _, rfl⟩ := List.mem_map.1 h1
    exact hp ((List.prefix_append _ _).trans hp2)
theorem LgInv.at_end {l : Ents V} {s : Bs} {o : Option Nat} {k : Nat} {x : Nd V} (h : LgInv l s o k x) (hk : ¬ k < s.length) : LgOf l s o :=
  h.stop fun q' hq hp => by
    have := (F.ents_hd h.wf.ord q' hq).1
    rw [List.drop_of_length_le (by omega)] at hp
    exact this (List.prefix_nil.1 hp)
end Go.Proofs.Ytkpfendodmfeoaa
