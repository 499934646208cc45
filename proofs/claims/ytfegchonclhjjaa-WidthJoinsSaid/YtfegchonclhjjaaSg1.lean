import Derived.Test.YtfegchonclhjjaaMem
import Derived.Test.YtfegchonclhjjaaProg
namespace Go.Proofs.Ytfegchonclhjjaa
open Go.RowKit
/-- sign.Next. -/
def nxt (l : Bs) : Nat × Nat := if l = [] then (0, 0) else dec l
theorem dec_s4 (l : Bs) (s : ByteArray) (hs : s = ⟨(l.take 4).toArray⟩) : Utf8.decode s 0 = dec l := by
  subst hs; rw [decode_dec]; simp [dec_take]
theorem size_s4 (l : Bs) (s : ByteArray) (hs : s = ⟨(l.take 4).toArray⟩) : s.size = min 4 l.length := by
  subst hs; simp [ByteArray.size]
set_option maxHeartbeats 400000 in
set_option maxRecDepth 100000 in
theorem Next_calls (A : Option Addr) (c : Nat) (l : Bs) (w : World) (hr : RdB w A l) (hc : l.length ≤ c) (hm : c ≤ maxLen) :
    Calls Try.prog 42 #[.slice A l.length c] w fun e w' => e = .returned (.tuple #[i32 (nxt l).1, i64 (nxt l).2]) ∧ Below w.heap.size w w' := by
  unfold maxLen at hm
  obtain ⟨s, hs⟩ : ∃ s : ByteArray, s = ⟨(l.take 4).toArray⟩ := ⟨_, rfl⟩
  have HD := Lib.hid (dec_s4 l s hs)
  have HS := Lib.hid (size_s4 l s hs)
  have hcv : ∀ m c', m = min 4 l.length → (convert 38 9 (.slice A m c')).run Try.prog w = .ok (.string s) w := by
    intro m c' hm; subst hs
    exact run_str (P := Try.prog) w _ 5 _ Try.underlying38 Try.underlying5 Try.underlying9 A (l.take 4) m c' (by simp [hm]) (by unfold RdB; rw [List.map_take]; exact hr.take 4)
  clear hs
  have hcv4 := hcv 4 c
  have hcvl := hcv l.length c
  clear hcv
  by_cases h4 : (4 : Int) < (l.length : Int)
  all_goals (first | (replace hcv4 := hcv4 (by omega); clear hcvl) | (replace hcvl := hcvl (by omega); clear hcv4))
  all_goals
    go_enter Try.func42, Try.ntmps42
    go_wp2
    go_loopw [4, 5] (fun v4 v5 wr => ∃ pos, wr = w.iter s pos ∧ ((pos = 0 ∧ v4 = .int .i64 0 ∧ v5 = .int .i32 0) ∨ (0 < s.size ∧ pos = (Utf8.decode s 0).2 ∧ v4 = .int .i64 1 ∧ v5 = .int .i32 (Utf8.decode s 0).1))) (fun _ _ wr => s.size - wr.iterPos w.heap.size)
    case atStart => exact ⟨0, rfl, .inl ⟨rfl, rfl, rfl⟩⟩
    case round =>
      obtain ⟨pos, rfl, hrel⟩ := hrel
      rcases hrel with ⟨rfl, rfl, rfl⟩ | ⟨h0, hp, rfl, rfl⟩
      · by_cases h0 : 0 < s.size
        · have hnx : ∀ ty, (Instr.next (.pointer (some ⟨w.heap.size, 0, none⟩)) true ty).run Try.prog (w.iter s 0) = _ := fun ty => run_next_any w s 0 ty h0
          go_wp2
          have hlt : 1 ≤ (Utf8.decode s 0).2 := by rw [HD.out]; exact dec_pos l
          go_roundw
          case rel => exact ⟨_, rfl, .inr ⟨h0, by simp, rfl, rfl⟩⟩
          case measure => simp; omega
        · have hnx : ∀ ty, (Instr.next (.pointer (some ⟨w.heap.size, 0, none⟩)) true ty).run Try.prog (w.iter s 0) = _ := fun ty => run_next_end w s 0 ty h0
          go_wp2
          go_ret2
          have hl : l = [] := List.eq_nil_of_length_eq_zero (by have := HS.out; omega)
          exact ⟨by simp [nxt, hl, i32, i64], (Below.refl _ w).alloc (Nat.le_refl _) _⟩
      · have hp1 : 1 ≤ pos := by rw [hp, HD.out]; exact dec_pos l
        have HP := Lib.hid hp
        clear hp
        by_cases h1 : pos < s.size
        · have hnx : ∀ ty, (Instr.next (.pointer (some ⟨w.heap.size, 0, none⟩)) true ty).run Try.prog (w.iter s pos) = _ := fun ty => run_next_any w s pos ty h1
          go_wp2
          go_ret2
          have hl : l ≠ [] := List.length_pos_iff.1 (by have := HS.out; omega)
          exact ⟨by simp [nxt, hl, i32, i64, HP.out, HD.out], (Below.refl _ w).alloc (Nat.le_refl _) _⟩
        · have hnx : ∀ ty, (Instr.next (.pointer (some ⟨w.heap.size, 0, none⟩)) true ty).run Try.prog (w.iter s pos) = _ := fun ty => run_next_end w s pos ty h1
          go_wp2
          go_ret2
          have hl : l ≠ [] := List.length_pos_iff.1 (by have := HS.out; omega)
          have hD := HD.out
          have hS := HS.out
          have hn : (dec l).2 = s.size := by have := dec_le hl; have := dec_le4 l; have := HP.out; rw [hD] at this; omega
          exact ⟨by simp [nxt, hl, i32, i64, hD, hn, hS]; omega, (Below.refl _ w).alloc (Nat.le_refl _) _⟩
end Go.Proofs.Ytfegchonclhjjaa
