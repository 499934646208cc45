import Derived.Test.YtkpfendodmfeoaaTm
namespace Go.Proofs.Ytkpfendodmfeoaa
set_option linter.unusedVariables false
set_option linter.unusedSimpArgs false
open Go.RowKit
def cmpI (x y : Nat) : Int := if x < y then -1 else if y < x then 1 else 0
theorem nan_calls (x : Nat) (hx : x < 256) (w : World) : Calls Try.prog 49 #[.int .u8 x] w fun e w' => e = .returned (.bool false) ∧ w = w' := by
  go_enter Try.func49, Try.ntmps49
  go_wp2
  go_ret
  exact ⟨by simp, rfl⟩
theorem cmp_calls (x y : Nat) (hx : x < 256) (hy : y < 256) (w : World) : Calls Try.prog 44 #[.int .u8 x, .int .u8 y] w fun e w' => e = .returned (.int .i64 (cmpI x y)) ∧ w = w' := by
  rcases Nat.lt_trichotomy x y with h | h | h
  · have h1 : (x : Int) < (y : Int) := by omega
    go_enter Try.func44, Try.ntmps44
    go_wp2_with (first
      | (go_at_call 49; refine (nan_calls x hx _).mono ?_; rintro e w' ⟨rfl, rfl⟩)
      | (go_at_call 49; refine (nan_calls y hy _).mono ?_; rintro e w' ⟨rfl, rfl⟩))
    go_ret
    exact ⟨by simp [cmpI, h], rfl⟩
  · subst h
    go_enter Try.func44, Try.ntmps44
    go_wp2_with (go_at_call 49; refine (nan_calls x hx _).mono ?_; rintro e w' ⟨rfl, rfl⟩)
    go_ret
    exact ⟨by simp [cmpI], rfl⟩
  · have h1 : (y : Int) < (x : Int) := by omega
    have h2 : ¬ (x : Int) < (y : Int) := by omega
    go_enter Try.func44, Try.ntmps44
    go_wp2_with (first
      | (go_at_call 49; refine (nan_calls x hx _).mono ?_; rintro e w' ⟨rfl, rfl⟩)
      | (go_at_call 49; refine (nan_calls y hy _).mono ?_; rintro e w' ⟨rfl, rfl⟩))
    go_ret
    exact ⟨by simp [cmpI, h]; omega, rfl⟩
theorem NdAt.cells {w : World} {a : Nat} {e : Bs} {i : Bool} {v : Value} {m : Nat} {sv : Value} (h : NdAt w a e i v m sv) :
    w.cell? ⟨a, 0, none⟩ = some (str e) ∧ w.cell? ⟨a, 1, none⟩ = some (.bool i) ∧ w.cell? ⟨a, 2, none⟩ = some v ∧ w.cell? ⟨a, 3, none⟩ = some (n64 m) ∧ w.cell? ⟨a, 4, none⟩ = some sv := by
  unfold NdAt at h
  refine ⟨?_, ?_, ?_, ?_, ?_⟩ <;> (rw [cell_of_row w a _ _ _ (0, 0) h]; rfl)
theorem below1_calls (w : World) (a : Nat) (e : Bs) (he : e ≠ []) (hc : w.cell? ⟨a, 0, none⟩ = some (str e)) (c : Nat) (h256 : c < 256) :
    Calls Try.prog 43 #[ptr a, .int .u8 c] w fun e' w' => e' = .returned (.int .i64 (cmpI (hd e) c)) ∧ w = w' := by
  obtain ⟨s, hs⟩ : ∃ s : ByteArray, s = ⟨e.toArray⟩ := ⟨_, rfl⟩
  have hsz : s.size = e.length := by rw [hs, str_of]
  have hpos := List.length_pos_iff.2 he
  have h0 : (0 : Int) < (s.size : Int) := by omega
  have h0' : 0 < s.size := by omega
  rw [lit_of hs] at hc
  have hh : hd e < 256 := at_lt e 0
  have hs0 : (s[0]'h0').toNat = hd e := by
    subst hs
    cases e with
    | nil => exact absurd rfl he
    | cons x e => rfl
  have HS := Lib.hid hs
  clear hs
  go_enter Try.func43, Try.ntmps43
  go_wp2_with (go_at_call 44; refine (cmp_calls (hd e) c hh h256 w).mono ?_; rintro e9 w' ⟨rfl, rfl⟩)
  go_ret
  exact ⟨rfl, rfl⟩
theorem cmpI_lt {x y : Nat} : (cmpI x y < 0) ↔ x < y := by unfold cmpI; split <;> (try split) <;> omega
theorem cmpI_eq {x y : Nat} : (cmpI x y = 0) ↔ x = y := by unfold cmpI; split <;> (try split) <;> omega
variable {α : Type} {enc : α → Value}
set_option maxHeartbeats 800000 in
theorem bsf_calls (w : World) (A : Option Addr) (cap : Nat) (f : F α) (qs fp : List Nat) (hr : RepF enc w f qs fp) (ho : f.Ord) (hk : Kids w (.slice A f.len cap) f.len qs) (c : Nat) (h256 : c < 256) (hl : f.len ≤ 4294967296) :
    Calls Try.prog 42 #[.slice A f.len cap, .int .u8 c, .func (.func 43) #[] #[]] w fun e w' => e = .returned (.tuple #[n64 (f.idx c), .bool (f.has c)]) ∧ w = w' := by
  obtain ⟨n, hn⟩ : ∃ n, n = f.len := ⟨_, rfl⟩
  rw [← hn] at hk hl ⊢
  have hidx := F.idx_le f c
  have hrd := hk.rd
  obtain ⟨A', cap', e, _, _, hrd, _⟩ := hrd
  cases e
  have hread : ∀ h, h < n → ∃ g off a x, A = some ⟨g, off, none⟩ ∧ w.cell? ⟨g, off + h, none⟩ = some (ptr a) ∧ f.nth h = some x ∧ x.edge ≠ [] ∧ w.cell? ⟨a, 0, none⟩ = some (str x.edge) := by
    intro h hh
    obtain ⟨x, hx⟩ := F.nth_some (f := f) (k := h) (by omega)
    obtain ⟨a, fa, fo, k1, k2, _⟩ := hr.nth hx
    obtain ⟨g, off, e1, e2⟩ := hrd h (ptr a) (by rw [List.getElem?_map, k1]; rfl)
    obtain ⟨sv, qs', fk, k3, _⟩ := k2
    exact ⟨g, off, a, x, e1, e2, hx, F.nth_ne ho hx, k3.cells.1⟩
  have HREAD := Lib.hid hread
  have HN := Lib.hid hn
  clear hread hrd hk hr hn
  obtain ⟨ix, hix⟩ : ∃ ix, ix = f.idx c := ⟨_, rfl⟩
  rw [← hix, ← HN.out] at hidx
  rw [← hix]
  have HIX := Lib.hid hix
  clear hix
  go_enter Try.func42, Try.ntmps42
  go_wp2
  go_loop [9, 10] (fun u9 u10 => ∃ i j : Nat, u9 = .int .i64 i ∧ u10 = .int .i64 j ∧ i ≤ ix ∧ ix ≤ j ∧ j ≤ n) (fun u9 u10 => (intOf u10 - intOf u9).toNat)
  case atStart => exact ⟨0, n, rfl, rfl, Nat.zero_le _, hidx, Nat.le_refl _⟩
  case round =>
    obtain ⟨i, j, rfl, rfl, hi, hj, hjn⟩ := hrel
    by_cases hij : i < j
    · obtain ⟨h, hh⟩ : ∃ h, h = (i + j) / 2 := ⟨_, rfl⟩
      have hh1 : i ≤ h := by omega
      have hh2 : h < j := by omega
      obtain ⟨g, off, a, x, rfl, c1, hx, hxe, c2⟩ := HREAD.out h (by omega)
      have e1 : IntKind.i64.wrap ((i : Int) + (j : Int)) = (i : Int) + (j : Int) := IntWalk.i64_in _ (by omega)
      have e2 : ((i : Int) + (j : Int)) / 2 = (h : Int) := by omega
      have b1 : (i : Int) < (j : Int) := by omega
      have b2 : (h : Int) < (n : Int) := by omega
      have HX := Lib.hid hx
      clear hx hh
      have hlt := F.idx_lt (c := c) ho HX.out
      rw [← HIX.out] at hlt
      by_cases hc : hd x.edge < c
      · have k1 : cmpI (hd x.edge) c < 0 := cmpI_lt.2 hc
        go_wp2_with (go_at_call 43; refine (below1_calls w a x.edge hxe c2 c h256).mono ?_; rintro e9 w' ⟨rfl, rfl⟩)
        go_round
        case rel => exact ⟨h + 1, j, by go_num, rfl, by have := hlt.2 hc; omega, hj, hjn⟩
        case measure => simp [intOf]; omega
      · have k1 : ¬ cmpI (hd x.edge) c < 0 := fun h => hc (cmpI_lt.1 h)
        go_wp2_with (go_at_call 43; refine (below1_calls w a x.edge hxe c2 c h256).mono ?_; rintro e9 w' ⟨rfl, rfl⟩)
        go_round
        case rel => exact ⟨i, h, rfl, rfl, hi, by have := fun e => hc (hlt.1 e); omega, by omega⟩
        case measure => simp [intOf]; omega
    · have hii : i = ix := by omega
      subst hii
      by_cases hn : i < n
      · obtain ⟨g, off, a, x, rfl, c1, hx, hxe, c2⟩ := HREAD.out i hn
        have b1 : (i : Int) < (n : Int) := by omega
        have hhas : f.has c = decide (hd x.edge = c) := by
          have := F.has_iff (f := f) (c := c)
          rw [← HIX.out] at this
          rw [Bool.eq_iff_iff, this, decide_eq_true_iff]
          constructor
          · rintro ⟨n', h1, h2⟩
            rw [hx] at h1; cases h1; exact h2
          · intro h; exact ⟨x, hx, h⟩
        have HH := Lib.hid hhas
        clear hx hhas
        go_wp2_with (go_at_call 43; refine (below1_calls w a x.edge hxe c2 c h256).mono ?_; rintro e9 w' ⟨rfl, rfl⟩)
        go_ret2
        refine ⟨?_, rfl⟩
        rw [HH.out, show (cmpI (hd x.edge) c == 0) = decide (hd x.edge = c) from by rw [Bool.eq_iff_iff]; simp [cmpI_eq]]
        rfl
      · have hhas : f.has c = false := by
          rw [← Bool.not_eq_true]
          intro h
          obtain ⟨n', h1, _⟩ := F.has_iff.1 h
          have := F.nth_lt h1
          rw [← HIX.out, ← HN.out] at this; omega
        have HH := Lib.hid hhas
        clear hhas
        go_wp2
        go_ret2
        exact ⟨by rw [HH.out]; rfl, rfl⟩
/-- node.below. -/
theorem below_calls (w : World) (x : Nd α) (a : Nat) (fp : List Nat) (hr : RepN enc w x a fp) (ho : x.kids.Ord) (c : Nat) (h256 : c < 256) (hl : x.kids.len ≤ 4294967296) :
    Calls Try.prog 31 #[ptr a, .int .u8 c] w fun e w' => e = .returned (.tuple #[n64 (x.kids.idx c), .bool (x.kids.has c)]) ∧ w = w' := by
  obtain ⟨sv, qs, fk, h1, h2, h3, _⟩ := hr
  have h4 := h1.cells.2.2.2.2
  obtain ⟨A, cap, rfl, _⟩ := h2.rd
  clear h1
  go_enter Try.func31, Try.ntmps31
  go_wp2_with (go_at_call 42; refine (bsf_calls w A cap x.kids qs fk h3 ho h2 c h256 hl).mono ?_; rintro e w' ⟨rfl, rfl⟩)
  go_ret2
  exact ⟨rfl, rfl⟩
end Go.Proofs.Ytkpfendodmfeoaa
