import Derived.Test.YtfegchonclhjjaaMem
import Derived.Test.YtfegchonclhjjaaProg
namespace Go.Proofs.Ytfegchonclhjjaa
open Go.RowKit
/-! The width of a sign. -/
def noneL : List (Int × Int) := [(0x300, 0x36f), (0x1ab0, 0x1aff), (0x1dc0, 0x1dff), (0x200b, 0x200d), (0x20d0, 0x20ff), (0xfe00, 0xfe0f), (0xfe20, 0xfe2f)]
def wideL : List (Int × Int) := [(0x1100, 0x115f), (0x2e80, 0x303e), (0x3041, 0xa4cf), (0xac00, 0xd7a3), (0xf900, 0xfaff), (0xfe30, 0xfe6f), (0xff01, 0xff60), (0xffe0, 0xffe6), (0x1f300, 0x1faff), (0x20000, 0x3fffd)]
def isIn (l : List (Int × Int)) (r : Int) : Bool := l.any fun p => decide (p.1 ≤ r) && decide (r ≤ p.2)
def wof (r : Int) : Int := if isIn noneL r then 0 else if isIn wideL r then 2 else 1
def ctl (r : Int) : Bool := decide (r ≤ 31) || (decide (127 ≤ r) && decide (r ≤ 159))
def flat2 (l : List (Int × Int)) : List Value := l.flatMap fun p => [.int .i32 p.1, .int .i32 p.2]
theorem wof_cases (r : Int) : wof r = 0 ∨ wof r = 1 ∨ wof r = 2 := by
  unfold wof; split
  · exact .inl rfl
  · split
    · exact .inr (.inr rfl)
    · exact .inr (.inl rfl)
/-- A slice of ranges that can be read. -/
def Rgs (w : World) (b : Nat) (l : List (Int × Int)) : Prop := ∀ k p, l[k]? = some p → w.cell? ⟨b, k * 2, none⟩ = some (.int .i32 p.1) ∧ w.cell? ⟨b, k * 2 + 1, none⟩ = some (.int .i32 p.2)
theorem in1_calls (b : Nat) (r lo hi : Int) (w : World) (hb : w.cell? ⟨b, 0, none⟩ = some (.int .i32 r)) (hlt : b < w.heap.size) : Calls Try.prog 41 #[.agg #[.int .i32 lo, .int .i32 hi], .pointer (some ⟨b, 0, none⟩)] w fun e w' => e = .returned (.bool (decide (lo ≤ r) && decide (r ≤ hi))) ∧ Below w.heap.size w w' := by
  go_enter Try.func41, Try.ntmps41
  go_wp2
  all_goals go_ret
  · have h : lo ≤ r := by assumption
    exact ⟨by simp [h], (Below.refl _ w).alloc (Nat.le_refl _) _⟩
  · have h : r < lo := by assumption
    exact ⟨by simp [show ¬ lo ≤ r by omega], (Below.refl _ w).alloc (Nat.le_refl _) _⟩
set_option maxHeartbeats 800000 in
set_option maxRecDepth 100000 in
theorem index_calls (b g c : Nat) (r : Int) (l : List (Int × Int)) (w : World) (hb : w.cell? ⟨b, 0, none⟩ = some (.int .i32 r)) (hr : Rgs w g l) (hl : l.length ≤ 100) :
    Calls Try.prog 44 #[.slice (some ⟨g, 0, none⟩) l.length c, .func (.func 41) #[] #[.pointer (some ⟨b, 0, none⟩)]] w fun e w' => ∃ j : Int, e = .returned (.int .i64 j) ∧ decide (0 ≤ j) = isIn l r ∧ Below w.heap.size w w' := by
  have hlt : b < w.heap.size := World.block_lt_of_cell? w ⟨b, 0, none⟩ hb
  have HR := Lib.hid hr
  clear hr
  go_enter Try.func44, Try.ntmps44
  go_wp2
  go_loopw [8] (fun u8 wr => ∃ k : Nat, u8 = .int .i64 k ∧ k ≤ l.length ∧ isIn (l.take k) r = false ∧ Below w.heap.size w wr) (fun u8 _ => l.length - (intOf u8).toNat)
  case atStart => exact ⟨0, rfl, Nat.zero_le _, rfl, Below.refl _ _⟩
  case round =>
    obtain ⟨k, rfl, hk, hin, hB⟩ := hrel
    have HIN := Lib.hid hin
    clear hin
    by_cases hgo : k < l.length
    · obtain ⟨p, hp⟩ : ∃ p, l[k]? = some p := ⟨_, List.getElem?_eq_getElem hgo⟩
      have hgk := HR.out k p hp
      have hg : g < w.heap.size := World.block_lt_of_cell? w ⟨g, k * 2, none⟩ hgk.1
      have hc1 := (hB.cell (p := ⟨g, k * 2, none⟩) hg).trans hgk.1
      have hc2 := (hB.cell (p := ⟨g, k * 2 + 1, none⟩) hg).trans hgk.2
      have hb1 := (hB.cell (p := ⟨b, 0, none⟩) hlt).trans hb
      have hlt1 : b < wr.heap.size := Nat.lt_of_lt_of_le hlt hB.size
      obtain ⟨lo, hi⟩ := p
      clear hgk
      dsimp only at hc1 hc2
      have i1 : (k : Int) < (l.length : Int) := by omega
      go_wp2_with fail
      refine (in1_calls b r lo hi wr hb1 hlt1).mono ?_
      rintro e w1 ⟨rfl, hb2⟩
      have HP := Lib.hid hp
      clear hp
      by_cases hh : (decide (lo ≤ r) && decide (r ≤ hi)) = true
      · rw [hh]
        go_wp2
        go_ret
        refine ⟨k, rfl, ?_, hB.trans (hb2.mono hB.size)⟩
        have : isIn l r = true := List.any_eq_true.2 ⟨_, List.mem_of_getElem? HP.out, hh⟩
        rw [this]; simp
      · rw [Bool.eq_false_iff.2 hh]
        go_wp2
        go_roundw
        case rel =>
          refine ⟨k + 1, by go_num, by omega, ?_, hB.trans (hb2.mono hB.size)⟩
          have e : l.take (k + 1) = l.take k ++ [(lo, hi)] := by rw [List.take_add_one, HP.out]; rfl
          have h1 := HIN.out
          unfold isIn at h1 ⊢
          rw [e, List.any_append, h1]
          simpa using hh
        case measure => simp [intOf]; omega
    · go_wp2
      go_ret
      refine ⟨-1, rfl, ?_, hB⟩
      have h1 := HIN.out
      rw [List.take_of_length_le (by omega)] at h1
      rw [h1]; rfl
theorem contains_calls (b g c : Nat) (r : Int) (l : List (Int × Int)) (w : World) (hb : w.cell? ⟨b, 0, none⟩ = some (.int .i32 r)) (hr : Rgs w g l) (hl : l.length ≤ 100) :
    Calls Try.prog 40 #[.slice (some ⟨g, 0, none⟩) l.length c, .func (.func 41) #[] #[.pointer (some ⟨b, 0, none⟩)]] w fun e w' => e = .returned (.bool (isIn l r)) ∧ Below w.heap.size w w' := by
  go_enter Try.func40, Try.ntmps40
  go_wp2_with fail
  refine (index_calls b g c r l w hb hr hl).mono ?_
  rintro e w1 ⟨j, rfl, hj, hb1⟩
  have HJ := Lib.hid hj
  clear hj
  by_cases h : 0 ≤ j
  all_goals
    go_wp2
    go_ret
    exact ⟨by rw [← HJ.out]; simp [h], hb1⟩
theorem Rgs.later {w w' : World} {g : Nat} {l : List (Int × Int)} (h : Rgs w g l) (hb : Below w.heap.size w w') : Rgs w' g l := fun k p hk => by
  obtain ⟨h1, h2⟩ := h k p hk
  have hg : g < w.heap.size := World.block_lt_of_cell? w ⟨g, k * 2, none⟩ h1
  exact ⟨(hb.cell (p := ⟨g, k * 2, none⟩) hg).trans h1, (hb.cell (p := ⟨g, k * 2 + 1, none⟩) hg).trans h2⟩
theorem in_calls (g c : Nat) (r : Int) (l : List (Int × Int)) (w : World) (hr : Rgs w g l) (hl : l.length ≤ 100) :
    Calls Try.prog 31 #[.slice (some ⟨g, 0, none⟩) l.length c, .int .i32 r] w fun e w' => e = .returned (.bool (isIn l r)) ∧ Below w.heap.size w w' := by
  have hr1 := hr.later (w' := w.alloc (.cells #[.int .i32 r] 21)) ((Below.refl _ w).alloc (Nat.le_refl _) _)
  have hb1 : Below w.heap.size w (w.alloc (.cells #[.int .i32 r] 21)) := (Below.refl _ w).alloc (Nat.le_refl _) _
  clear hr
  go_enter Try.func31, Try.ntmps31
  go_wp2_with fail
  refine (contains_calls w.heap.size g c r l (w.alloc (.cells #[.int .i32 r] 21)) (by simp) hr1 hl).mono ?_
  rintro e w1 ⟨rfl, hb2⟩
  go_wp2
  go_ret
  exact ⟨rfl, hb1.trans (hb2.mono (by simp))⟩
end Go.Proofs.Ytfegchonclhjjaa
