import Derived.Test.YtfgjhfmgacopoaaDoorPu
import Derived.Test.YtfgjhfmgacopoaaDoorKa
namespace Go.Proofs.YtfgjhfmgacopoaaDoor
open Go.RowKit
/-- ref.low. -/
theorem low_calls (A : Option Addr) (c : Nat) (l : Bs) (j : Int) (k : Nat) (hj : j = (k : Int)) (w : World) (hr : RdB w A l) (hl : l.length ≤ 4294967296) (hk : k ≤ 4294967296) :
    Calls Tryd.prog 48 #[.slice A l.length c, .int .i64 j] w fun e w' => e = .returned (.int .i64 (rlow l k)) ∧ w = w' := by
  subst hj
  by_cases h1 : l.length ≤ k
  · have hrl : rlow l k = -1 := by unfold rlow; rw [if_neg (by omega)]
    rw [hrl]
    go_enter Tryd.func48, Tryd.ntmps48
    go_wp2
    go_ret
    exact ⟨rfl, rfl⟩
  · have h0 : l ≠ [] := by intro e; subst e; simp at h1
    obtain ⟨b, off, rfl, hc⟩ := hr.cell h0
    have hc1 := hc k (by omega)
    clear hc hr
    have hlt := at_lt l k
    by_cases h2 : at' l k < 128
    · have hrl : rlow l k = -1 := by unfold rlow; rw [if_neg (by omega)]
      rw [hrl]
      go_enter Tryd.func48, Tryd.ntmps48
      go_wp2
      go_ret
      exact ⟨rfl, rfl⟩
    · by_cases h3 : 191 < at' l k
      · have hrl : rlow l k = -1 := by unfold rlow; rw [if_neg (by omega)]
        rw [hrl]
        go_enter Tryd.func48, Tryd.ntmps48
        go_wp2
        go_ret
        exact ⟨rfl, rfl⟩
      · have hrl : rlow l k = (at' l k : Int) - 128 := by unfold rlow; rw [if_pos (by omega)]
        rw [hrl]
        go_enter Tryd.func48, Tryd.ntmps48
        go_wp2
        go_ret
        exact ⟨by simp, rfl⟩
theorem int_o8 (x : Int) (n : Nat) (h : x = ((n % 256 : Nat) : Int)) : Value.int .u8 x = byt (o8 n) := by rw [h]; simp [byt, o8_toNat]
set_option maxHeartbeats 800000 in
set_option maxRecDepth 100000 in
/-- ref.Bytes. -/
theorem Bytes_calls (r : Int) (w : World) :
    Calls Tryd.prog 31 #[.int .i64 r] w fun e w' => ∃ v, e = .returned v ∧ Row w' w.heap.size 5 1 v (rb r).length ((rb r).map byt) ∧ Below w.heap.size w w' := by
  have hnil : ∀ w : World, ¬ Utf8.valid r = true → Row w w.heap.size 5 1 (.slice none 0 0) (rb r).length ((rb r).map byt) := by
    intro w h; unfold rb; rw [if_neg h]; exact Row.nil _ _ _ _
  have hv := valid_iff r
  by_cases h1 : r < 0
  · have := hnil w (by rw [hv]; omega)
    go_enter Tryd.func31, Tryd.ntmps31
    go_wp2
    go_ret
    exact ⟨_, rfl, this, Below.refl _ _⟩
  by_cases h2 : 1114111 < r
  · have := hnil w (by rw [hv]; omega)
    go_enter Tryd.func31, Tryd.ntmps31
    go_wp2
    go_ret
    exact ⟨_, rfl, this, Below.refl _ _⟩
  by_cases h3 : 55296 ≤ r ∧ r ≤ 57343
  · have := hnil w (by rw [hv]; omega)
    obtain ⟨h3, h4⟩ := h3
    go_enter Tryd.func31, Tryd.ntmps31
    go_wp2
    go_ret
    exact ⟨_, rfl, this, Below.refl _ _⟩
  have hval : Utf8.valid r = true := hv.2 (by omega)
  have hrb : rb r = encN r.toNat := by unfold rb; rw [if_pos hval]
  clear hv hnil hval
  have HRB := Lib.hid hrb
  clear hrb
  have hr4 : (rb r).length ≤ 4 := by
    rw [HRB.out, encN_len]; repeat' split
    all_goals omega
  have fin : ∀ (W : World) (cs : Array Value), W = w.alloc (.cells cs 5) → cs.toList = (rb r).map byt → Row W w.heap.size 5 1 (.slice (some ⟨w.heap.size, 0, none⟩) cs.size cs.size) (rb r).length ((rb r).map byt) := by
    intro W cs hW hcs
    have hl : cs.size = (rb r).length := by rw [← Array.length_toList, hcs, List.length_map]
    subst hW
    rw [← hcs, ← hl]
    exact Row.new w cs _ _ _ _ (Nat.le_refl _) (by simp only [maxLen]; omega) (by omega)
  have h0 : 0 ≤ r := by omega
  by_cases h5 : 55296 ≤ r
  all_goals (first | (have h6 : 57343 < r := by omega) | skip)
  all_goals (clear h3)
  all_goals
    go_enter Tryd.func31, Tryd.ntmps31
    go_wp2
  all_goals go_ret
  all_goals refine ⟨_, rfl, fin _ _ rfl ?_, (Below.refl _ _).alloc (Nat.le_refl _) _⟩
  all_goals (rw [HRB.out]; unfold encN; clear HRB fin hr4)
  all_goals (repeat' split)
  all_goals first
    | (exfalso; omega)
    | exact cons2 (int_o8 _ _ (by omega)) rfl
    | exact cons2 (int_o8 _ _ (by omega)) (cons2 (int_o8 _ _ (by omega)) rfl)
    | exact cons2 (int_o8 _ _ (by omega)) (cons2 (int_o8 _ _ (by omega)) (cons2 (int_o8 _ _ (by omega)) rfl))
    | exact cons2 (int_o8 _ _ (by omega)) (cons2 (int_o8 _ _ (by omega)) (cons2 (int_o8 _ _ (by omega)) (cons2 (int_o8 _ _ (by omega)) rfl)))
set_option maxHeartbeats 400000 in
/-- ref.begins. -/
theorem begins_calls (A A' : Option Addr) (c c' : Nat) (l p : Bs) (w : World) (hr : RdB w A l) (hr' : RdB w A' p) (hl : l.length ≤ 4294967296) (hp : p.length ≤ 4294967296) :
    Calls Tryd.prog 49 #[.slice A l.length c, .slice A' p.length c'] w fun e w' => e = .returned (.bool (rbeg l p)) ∧ Below w.heap.size w w' := by
  by_cases h0 : p = []
  · subst h0
    go_enter Tryd.func49, Tryd.ntmps49
    go_wp2
    go_ret
    exact ⟨rfl, Below.refl _ _⟩
  have hp0 : 0 < p.length := List.length_pos_iff.2 h0
  have hpz : ((p.length : Int) == 0) = false := by simp; omega
  by_cases h1 : l.length < p.length
  · have hb : rbeg l p = false := by
      rw [Bool.eq_false_iff]; intro h
      have := rbeg_at h l.length h1
      omega
    rw [hb]
    go_enter Tryd.func49, Tryd.ntmps49
    go_wp2
    go_ret
    exact ⟨rfl, Below.refl _ _⟩
  have hl0 : l ≠ [] := List.length_pos_iff.1 (by omega)
  obtain ⟨b, off, rfl, hc⟩ := hr.cell hl0
  obtain ⟨b', off', rfl, hc'⟩ := hr'.cell h0
  have HC := Lib.hid hc
  have HC' := Lib.hid hc'
  clear hc hc' hr hr'
  go_enter Tryd.func49, Tryd.ntmps49
  go_wp2
  go_loopw [5] (fun u5 wr => ∃ (k nd : Nat), u5 = .int .i64 k ∧ wr = w.drewN nd ∧ k ≤ p.length ∧ ∀ j, j < k → at' l j = at' p j) (fun u5 _ => p.length - (intOf u5).toNat)
  case atStart => exact ⟨0, 0, rfl, rfl, Nat.zero_le _, fun j hj => by omega⟩
  case round =>
    obtain ⟨k, nd, rfl, rfl, hk, heq⟩ := hrel
    have HE := Lib.hid heq
    clear heq
    by_cases hlt : k < p.length
    · have hc1 := HC.out k (by omega)
      have hc2 := HC'.out k hlt
      have b1 : (k : Int) < (l.length : Int) := by omega
      have b2 : (k : Int) < (p.length : Int) := by omega
      by_cases he : at' l k = at' p k
      · have he' : ((at' l k : Int) != (at' p k : Int)) = false := by simp [he]
        go_wp2
        go_quiet (fail)
        go_wp2
        go_roundw
        case rel =>
          refine ⟨k + 1, _, by go_num, rfl, by omega, fun j hj => ?_⟩
          rcases Nat.lt_succ_iff_lt_or_eq.1 hj with h | h
          · exact HE.out j h
          · rw [h]; exact he
        case measure => simp [intOf]; omega
      · have he' : ((at' l k : Int) != (at' p k : Int)) = true := by simp; omega
        go_wp2
        go_quiet (fail)
        go_wp2
        go_ret
        have hb : rbeg l p = false := by
          rw [Bool.eq_false_iff]; intro h
          exact he (rbeg_at h k hlt).1
        rw [hb]
        exact ⟨rfl, (Below.refl _ _).trans ⟨rfl, rfl, rfl, Nat.le_refl _, fun _ _ => rfl⟩⟩
    · go_wp2
      go_ret
      have : rbeg l p = true := rbeg_of h0 (by omega) fun j hj => HE.out j (by omega)
      rw [this]
      exact ⟨rfl, (Below.refl _ _).trans ⟨rfl, rfl, rfl, Nat.le_refl _, fun _ _ => rfl⟩⟩
end Go.Proofs.YtfgjhfmgacopoaaDoor
