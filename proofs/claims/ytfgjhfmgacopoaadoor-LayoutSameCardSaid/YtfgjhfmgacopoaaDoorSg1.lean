import Derived.Test.YtfgjhfmgacopoaaDoorMem
import Derived.Test.YtfgjhfmgacopoaaDoorProg
namespace Go.Proofs.YtfgjhfmgacopoaaDoor
open Go.RowKit
/-- sign.Next. -/
def nxt (l : Bs) : Nat × Nat := if l = [] then (0, 0) else dec l
theorem dec_s4 (l : Bs) (s : ByteArray) (hs : s = ⟨(l.take 4).toArray⟩) : Utf8.decode s 0 = dec l := by
  subst hs; rw [decode_dec]; simp [dec_take]
theorem size_s4 (l : Bs) (s : ByteArray) (hs : s = ⟨(l.take 4).toArray⟩) : s.size = min 4 l.length := by
  subst hs; simp [ByteArray.size]
set_option maxHeartbeats 400000 in
set_option maxRecDepth 100000 in
theorem Next_calls (A : Option Addr) (c : Nat) (l : Bs) (w : World) (hr : RdB w A l) (hc : l.length ≤ c) (hm : c ≤ maxLen) :
    Calls Tryd.prog 83 #[.slice A l.length c] w fun e w' => e = .returned (.tuple #[i32 (nxt l).1, i64 (nxt l).2]) ∧ Below w.heap.size w w' := by
  unfold maxLen at hm
  obtain ⟨s, hs⟩ : ∃ s : ByteArray, s = ⟨(l.take 4).toArray⟩ := ⟨_, rfl⟩
  have HD := Lib.hid (dec_s4 l s hs)
  have HS := Lib.hid (size_s4 l s hs)
  have hcv : ∀ m c', m = min 4 l.length → (convert 61 9 (.slice A m c')).run Tryd.prog w = .ok (.string s) w := by
    intro m c' hm; subst hs
    exact run_str (P := Tryd.prog) w _ 5 _ Tryd.underlying61 Tryd.underlying5 Tryd.underlying9 A (l.take 4) m c' (by simp [hm]) (by unfold RdB; rw [List.map_take]; exact hr.take 4)
  clear hs
  have hcv4 := hcv 4 c
  have hcvl := hcv l.length c
  clear hcv
  by_cases h4 : (4 : Int) < (l.length : Int)
  all_goals (first | (replace hcv4 := hcv4 (by omega); clear hcvl) | (replace hcvl := hcvl (by omega); clear hcv4))
  all_goals
    go_enter Tryd.func83, Tryd.ntmps83
    go_wp2
    go_loopw [4, 5] (fun v4 v5 wr => ∃ pos, wr = w.iter s pos ∧ ((pos = 0 ∧ v4 = .int .i64 0 ∧ v5 = .int .i32 0) ∨ (0 < s.size ∧ pos = (Utf8.decode s 0).2 ∧ v4 = .int .i64 1 ∧ v5 = .int .i32 (Utf8.decode s 0).1))) (fun _ _ wr => s.size - wr.iterPos w.heap.size)
    case atStart => exact ⟨0, rfl, .inl ⟨rfl, rfl, rfl⟩⟩
    case round =>
      obtain ⟨pos, rfl, hrel⟩ := hrel
      rcases hrel with ⟨rfl, rfl, rfl⟩ | ⟨h0, hp, rfl, rfl⟩
      · by_cases h0 : 0 < s.size
        · have hnx : ∀ ty, (Instr.next (.pointer (some ⟨w.heap.size, 0, none⟩)) true ty).run Tryd.prog (w.iter s 0) = _ := fun ty => run_next_any w s 0 ty h0
          go_wp2
          have hlt : 1 ≤ (Utf8.decode s 0).2 := by rw [HD.out]; exact dec_pos l
          go_roundw
          case rel => exact ⟨_, rfl, .inr ⟨h0, by simp, rfl, rfl⟩⟩
          case measure => simp; omega
        · have hnx : ∀ ty, (Instr.next (.pointer (some ⟨w.heap.size, 0, none⟩)) true ty).run Tryd.prog (w.iter s 0) = _ := fun ty => run_next_end w s 0 ty h0
          go_wp2
          go_ret2
          have hl : l = [] := List.eq_nil_of_length_eq_zero (by have := HS.out; omega)
          exact ⟨by simp [nxt, hl, i32, i64], (Below.refl _ w).alloc (Nat.le_refl _) _⟩
      · have hp1 : 1 ≤ pos := by rw [hp, HD.out]; exact dec_pos l
        have HP := Lib.hid hp
        clear hp
        by_cases h1 : pos < s.size
        · have hnx : ∀ ty, (Instr.next (.pointer (some ⟨w.heap.size, 0, none⟩)) true ty).run Tryd.prog (w.iter s pos) = _ := fun ty => run_next_any w s pos ty h1
          go_wp2
          go_ret2
          have hl : l ≠ [] := List.length_pos_iff.1 (by have := HS.out; omega)
          exact ⟨by simp [nxt, hl, i32, i64, HP.out, HD.out], (Below.refl _ w).alloc (Nat.le_refl _) _⟩
        · have hnx : ∀ ty, (Instr.next (.pointer (some ⟨w.heap.size, 0, none⟩)) true ty).run Tryd.prog (w.iter s pos) = _ := fun ty => run_next_end w s pos ty h1
          go_wp2
          go_ret2
          have hl : l ≠ [] := List.length_pos_iff.1 (by have := HS.out; omega)
          have hD := HD.out
          have hS := HS.out
          have hn : (dec l).2 = s.size := by have := dec_le hl; have := dec_le4 l; have := HP.out; rw [hD] at this; omega
          exact ⟨by simp [nxt, hl, i32, i64, hD, hn, hS]; omega, (Below.refl _ w).alloc (Nat.le_refl _) _⟩
end Go.Proofs.YtfgjhfmgacopoaaDoor
namespace Go.Proofs.YtfgjhfmgacopoaaDoor
open Go.RowKit
theorem Tryd.info_i32 : (Tryd.prog.info? 21).map (fun i => (i.zero, i.size, i.bytes)) = some (some (.int .i32 0), 1, 4) := by kernel_rfl
/-- sign.Runes. -/
theorem runes_step (l : Bs) (pos : Nat) (xs : List Nat) (h : pos < l.length) (hx : xs ++ runes (l.drop pos) = runes l) :
    (xs ++ [(dec (l.drop pos)).1]) ++ runes (l.drop (pos + (dec (l.drop pos)).2)) = runes l := by
  rw [← hx, runes_cons (l := l.drop pos) (by intro e; have := congrArg List.length e; simp at this; omega), List.drop_drop]
  simp
theorem Row.iterAt {w : World} {B : Nat} {e : TypeId} {sz : Nat} {v : Value} {n : Nat} {xs : List Value} (h : Row w B e sz v n xs) {k : Nat} (hk : k < B) (s : ByteArray) (p : Nat) : Row (w.iterAt k s p) B e sz v n xs :=
  h.at_ fun j hj => Lib.iterAt_other w k j s p (by have := (h.lt j hj).1; omega)
set_option maxHeartbeats 400000 in
set_option maxRecDepth 100000 in
theorem Runes_calls (A : Option Addr) (c : Nat) (l : Bs) (w : World) (hr : RdB w A l) (hl : l.length ≤ 4294967296) :
    Calls Tryd.prog 80 #[.slice A l.length c] w fun e w' => ∃ v, e = .returned v ∧ Row w' w.heap.size 21 1 v (runes l).length ((runes l).map i32) ∧ Below w.heap.size w w' := by
  obtain ⟨s, hs⟩ : ∃ s : ByteArray, s = ⟨l.toArray⟩ := ⟨_, rfl⟩
  have hsl : s.data.toList = l := by rw [hs]
  have hsz : s.size = l.length := by rw [hs]; simp [ByteArray.size]
  have HS := Lib.hid hsz
  have HL := Lib.hid hsl
  have hcv : (convert 61 9 (.slice A l.length c)).run Tryd.prog w = .ok (.string s) w := by
    subst hs
    exact run_str (P := Tryd.prog) w _ 5 _ Tryd.underlying61 Tryd.underlying5 Tryd.underlying9 A l _ c rfl hr
  clear hs hsl hsz
  go_enter Tryd.func80, Tryd.ntmps80
  go_wp2
  go_loopw [3] (fun v3 wr => ∃ pos xs, wr.heap[w.heap.size]? = some (.stringIter s pos) ∧ Row wr (w.heap.size + 1) 21 1 v3 xs.length (xs.map i32) ∧ Below w.heap.size w wr ∧ xs ++ runes (l.drop pos) = runes l) (fun _ wr => s.size - wr.iterPos w.heap.size)
  case atStart => exact ⟨0, [], by simp [World.iter_heap], Row.nil _ _ _ _, (Below.refl _ _).alloc (Nat.le_refl _) _, by simp⟩
  case round =>
    obtain ⟨pos, xs, hit, hrow, hb, hx⟩ := hrel
    have hsw : w.heap.size < wr.heap.size := (Array.getElem?_eq_some_iff.1 hit).1
    have hlen : xs.length + (runes (l.drop pos)).length ≤ l.length := by rw [← List.length_append, hx]; exact runes_length l
    have HX := Lib.hid hx
    clear hx
    by_cases h1 : pos < s.size
    · have hnx : ∀ ty, (Instr.next (.pointer (some ⟨w.heap.size, 0, none⟩)) true ty).run Tryd.prog wr = _ := fun ty => Lib.run_next_any_at wr w.heap.size s pos ty hit h1
      have hit2 := Lib.iterAt_heap wr w.heap.size s pos (pos + (Utf8.decode s pos).2) hit
      have hrow2 := hrow.iterAt (Nat.lt_succ_self _) s (pos + (Utf8.decode s pos).2)
      have hb2 := Lib.below_iterAt hb (k := w.heap.size) (Nat.le_refl _) s (pos + (Utf8.decode s pos).2)
      have hsw2 : w.heap.size < (wr.iterAt w.heap.size s (pos + (Utf8.decode s pos).2)).heap.size := by rw [Lib.iterAt_size]; exact hsw
      have HD := Lib.hid (decode_dec s pos)
      have hp1 : 1 ≤ (Utf8.decode s pos).2 := by rw [decode_dec]; exact dec_pos _
      go_wp2_with (first | (at_builtin; refine wpList_append_row _ rfl _ _ 130 rfl (w.heap.size + 1) 21 1 4 _ Tryd.underlying130 Tryd.info_i32 rfl (by decide) u3 _ _ rfl (hrow2.alloc _) _ 1 1 [i32 (Utf8.decode s pos).1] rfl rfl (Rd.new1 _ _ _) (by simp [i32, Value.oneCell']) (by omega) (by simp only [maxLen]; omega) (by simp; omega) ?_; intro A1 c1 w1 hrow3 hg _))
      have hit3 : w1.heap[w.heap.size]? = some (.stringIter s (pos + (Utf8.decode s pos).2)) := by
        rw [hg.block w.heap.size (by simp; omega) (fun e => by have := (hrow2.lt _ e.symm).1; omega), Below.heap_alloc _ _ _ hsw2]; exact hit2
      have hb3 : Below w.heap.size w w1 := (hb2.alloc (by omega) _).grown hg (by simp; omega) (fun k e => by have := (hrow2.lt _ e).1; omega)
      go_roundw
      case rel =>
        have hd : Utf8.decode s pos = dec (l.drop pos) := by rw [HD.out, HL.out]
        refine ⟨pos + (Utf8.decode s pos).2, xs ++ [(Utf8.decode s pos).1], hit3, by simpa [i32] using hrow3, hb3, ?_⟩
        rw [hd]; exact runes_step l pos xs (by have := HS.out; omega) HX.out
      case measure => simp [iterPos_of hit3, iterPos_of hit]; omega
    · have hnx : ∀ ty, (Instr.next (.pointer (some ⟨w.heap.size, 0, none⟩)) true ty).run Tryd.prog wr = _ := fun ty => Lib.run_next_end_at wr w.heap.size s pos ty hit h1
      go_wp2
      go_ret
      have hxs : xs = runes l := by
        have := HX.out
        rw [List.drop_of_length_le (by have := HS.out; omega)] at this
        simpa [runes_nil] using this
      subst hxs
      exact ⟨_, rfl, hrow.mono (by omega), hb⟩
end Go.Proofs.YtfgjhfmgacopoaaDoor
