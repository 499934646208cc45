import Derived.Test.YtcifakmlfndlaaaDoorTt10
import Derived.BigQuiet
namespace Go.Proofs.YtcifakmlfndlaaaDoor
set_option linter.unusedVariables false
set_option linter.unusedSimpArgs false
open Go.RowKit Go.Shelf
def wordX (x : Nat) : Bool := decide (x = 95) || (decide (97 ≤ x) && decide (x ≤ 122)) || (decide (65 ≤ x) && decide (x ≤ 90)) || (decide (48 ≤ x) && decide (x ≤ 57)) || decide (128 ≤ x)
def wordB (c : Bs) : Bool := match c with | x :: _ => wordX x.toNat | [] => false
set_option maxRecDepth 100000 in
set_option maxHeartbeats 3200000 in
theorem word_walk (s : ByteArray) (x : Nat) (w : World) (hi : ∀ W, (Instr.index 9 (.string s) (.int .i64 0)).run Tryd.prog W = .ok (.int .u8 (x : Int)) W) :
    Calls Tryd.prog 46 #[.string s] w fun e w' => e = .returned (.bool (wordX x)) ∧ w' = w := by
  have HI := hi
  clear hi
  rcases (by omega : (x < 48) ∨ (48 ≤ x ∧ x < 58) ∨ (58 ≤ x ∧ x < 65) ∨ (65 ≤ x ∧ x < 91) ∨ (91 ≤ x ∧ x < 95) ∨ (x = 95) ∨ (x = 96) ∨ (97 ≤ x ∧ x < 123) ∨ (123 ≤ x ∧ x < 128) ∨ (128 ≤ x)) with l0 | l1 | l2 | l3 | l4 | l5 | l6 | l7 | l8 | l9
  · have hw : wordX x = false := by unfold wordX; simp; omega
    rw [hw]
    have e0 : decide (x = 95) = false := by simp; omega
    have d0 : decide ((x : Int) = 95) = false := by simp; omega
    have e1 : decide (97 ≤ x) = false := by simp; omega
    have d1 : decide (97 ≤ (x : Int)) = false := by simp; omega
    have e2 : decide (x ≤ 122) = true := by simp; omega
    have d2 : decide ((x : Int) ≤ 122) = true := by simp; omega
    have e3 : decide (65 ≤ x) = false := by simp; omega
    have d3 : decide (65 ≤ (x : Int)) = false := by simp; omega
    have e4 : decide (x ≤ 90) = true := by simp; omega
    have d4 : decide ((x : Int) ≤ 90) = true := by simp; omega
    have e5 : decide (48 ≤ x) = false := by simp; omega
    have d5 : decide (48 ≤ (x : Int)) = false := by simp; omega
    have e6 : decide (x ≤ 57) = true := by simp; omega
    have d6 : decide ((x : Int) ≤ 57) = true := by simp; omega
    have e7 : decide (128 ≤ x) = false := by simp; omega
    have d7 : decide (128 ≤ (x : Int)) = false := by simp; omega
    have d8 : ((x : Int) == 95) = false := by simp; omega
    have e8 : (x == 95) = false := by simp; omega
    clear l0 hw
    go_enter Tryd.func46, Tryd.ntmps46
    go_wp2
    go_ret
    exact ⟨rfl, rfl⟩
  · have hw : wordX x = true := by unfold wordX; simp; omega
    rw [hw]
    have e0 : decide (x = 95) = false := by simp; omega
    have d0 : decide ((x : Int) = 95) = false := by simp; omega
    have e1 : decide (97 ≤ x) = false := by simp; omega
    have d1 : decide (97 ≤ (x : Int)) = false := by simp; omega
    have e2 : decide (x ≤ 122) = true := by simp; omega
    have d2 : decide ((x : Int) ≤ 122) = true := by simp; omega
    have e3 : decide (65 ≤ x) = false := by simp; omega
    have d3 : decide (65 ≤ (x : Int)) = false := by simp; omega
    have e4 : decide (x ≤ 90) = true := by simp; omega
    have d4 : decide ((x : Int) ≤ 90) = true := by simp; omega
    have e5 : decide (48 ≤ x) = true := by simp; omega
    have d5 : decide (48 ≤ (x : Int)) = true := by simp; omega
    have e6 : decide (x ≤ 57) = true := by simp; omega
    have d6 : decide ((x : Int) ≤ 57) = true := by simp; omega
    have e7 : decide (128 ≤ x) = false := by simp; omega
    have d7 : decide (128 ≤ (x : Int)) = false := by simp; omega
    have d8 : ((x : Int) == 95) = false := by simp; omega
    have e8 : (x == 95) = false := by simp; omega
    clear l1 hw
    go_enter Tryd.func46, Tryd.ntmps46
    go_wp2
    go_ret
    exact ⟨rfl, rfl⟩
  · have hw : wordX x = false := by unfold wordX; simp; omega
    rw [hw]
    have e0 : decide (x = 95) = false := by simp; omega
    have d0 : decide ((x : Int) = 95) = false := by simp; omega
    have e1 : decide (97 ≤ x) = false := by simp; omega
    have d1 : decide (97 ≤ (x : Int)) = false := by simp; omega
    have e2 : decide (x ≤ 122) = true := by simp; omega
    have d2 : decide ((x : Int) ≤ 122) = true := by simp; omega
    have e3 : decide (65 ≤ x) = false := by simp; omega
    have d3 : decide (65 ≤ (x : Int)) = false := by simp; omega
    have e4 : decide (x ≤ 90) = true := by simp; omega
    have d4 : decide ((x : Int) ≤ 90) = true := by simp; omega
    have e5 : decide (48 ≤ x) = true := by simp; omega
    have d5 : decide (48 ≤ (x : Int)) = true := by simp; omega
    have e6 : decide (x ≤ 57) = false := by simp; omega
    have d6 : decide ((x : Int) ≤ 57) = false := by simp; omega
    have e7 : decide (128 ≤ x) = false := by simp; omega
    have d7 : decide (128 ≤ (x : Int)) = false := by simp; omega
    have d8 : ((x : Int) == 95) = false := by simp; omega
    have e8 : (x == 95) = false := by simp; omega
    clear l2 hw
    go_enter Tryd.func46, Tryd.ntmps46
    go_wp2
    go_ret
    exact ⟨rfl, rfl⟩
  · have hw : wordX x = true := by unfold wordX; simp; omega
    rw [hw]
    have e0 : decide (x = 95) = false := by simp; omega
    have d0 : decide ((x : Int) = 95) = false := by simp; omega
    have e1 : decide (97 ≤ x) = false := by simp; omega
    have d1 : decide (97 ≤ (x : Int)) = false := by simp; omega
    have e2 : decide (x ≤ 122) = true := by simp; omega
    have d2 : decide ((x : Int) ≤ 122) = true := by simp; omega
    have e3 : decide (65 ≤ x) = true := by simp; omega
    have d3 : decide (65 ≤ (x : Int)) = true := by simp; omega
    have e4 : decide (x ≤ 90) = true := by simp; omega
    have d4 : decide ((x : Int) ≤ 90) = true := by simp; omega
    have e5 : decide (48 ≤ x) = true := by simp; omega
    have d5 : decide (48 ≤ (x : Int)) = true := by simp; omega
    have e6 : decide (x ≤ 57) = false := by simp; omega
    have d6 : decide ((x : Int) ≤ 57) = false := by simp; omega
    have e7 : decide (128 ≤ x) = false := by simp; omega
    have d7 : decide (128 ≤ (x : Int)) = false := by simp; omega
    have d8 : ((x : Int) == 95) = false := by simp; omega
    have e8 : (x == 95) = false := by simp; omega
    clear l3 hw
    go_enter Tryd.func46, Tryd.ntmps46
    go_wp2
    go_ret
    exact ⟨rfl, rfl⟩
  · have hw : wordX x = false := by unfold wordX; simp; omega
    rw [hw]
    have e0 : decide (x = 95) = false := by simp; omega
    have d0 : decide ((x : Int) = 95) = false := by simp; omega
    have e1 : decide (97 ≤ x) = false := by simp; omega
    have d1 : decide (97 ≤ (x : Int)) = false := by simp; omega
    have e2 : decide (x ≤ 122) = true := by simp; omega
    have d2 : decide ((x : Int) ≤ 122) = true := by simp; omega
    have e3 : decide (65 ≤ x) = true := by simp; omega
    have d3 : decide (65 ≤ (x : Int)) = true := by simp; omega
    have e4 : decide (x ≤ 90) = false := by simp; omega
    have d4 : decide ((x : Int) ≤ 90) = false := by simp; omega
    have e5 : decide (48 ≤ x) = true := by simp; omega
    have d5 : decide (48 ≤ (x : Int)) = true := by simp; omega
    have e6 : decide (x ≤ 57) = false := by simp; omega
    have d6 : decide ((x : Int) ≤ 57) = false := by simp; omega
    have e7 : decide (128 ≤ x) = false := by simp; omega
    have d7 : decide (128 ≤ (x : Int)) = false := by simp; omega
    have d8 : ((x : Int) == 95) = false := by simp; omega
    have e8 : (x == 95) = false := by simp; omega
    clear l4 hw
    go_enter Tryd.func46, Tryd.ntmps46
    go_wp2
    go_ret
    exact ⟨rfl, rfl⟩
  · have hw : wordX x = true := by unfold wordX; simp; omega
    rw [hw]
    have e0 : decide (x = 95) = true := by simp; omega
    have d0 : decide ((x : Int) = 95) = true := by simp; omega
    have e1 : decide (97 ≤ x) = false := by simp; omega
    have d1 : decide (97 ≤ (x : Int)) = false := by simp; omega
    have e2 : decide (x ≤ 122) = true := by simp; omega
    have d2 : decide ((x : Int) ≤ 122) = true := by simp; omega
    have e3 : decide (65 ≤ x) = true := by simp; omega
    have d3 : decide (65 ≤ (x : Int)) = true := by simp; omega
    have e4 : decide (x ≤ 90) = false := by simp; omega
    have d4 : decide ((x : Int) ≤ 90) = false := by simp; omega
    have e5 : decide (48 ≤ x) = true := by simp; omega
    have d5 : decide (48 ≤ (x : Int)) = true := by simp; omega
    have e6 : decide (x ≤ 57) = false := by simp; omega
    have d6 : decide ((x : Int) ≤ 57) = false := by simp; omega
    have e7 : decide (128 ≤ x) = false := by simp; omega
    have d7 : decide (128 ≤ (x : Int)) = false := by simp; omega
    have d8 : ((x : Int) == 95) = true := by simp; omega
    have e8 : (x == 95) = true := by simp; omega
    clear l5 hw
    go_enter Tryd.func46, Tryd.ntmps46
    go_wp2
    go_ret
    exact ⟨rfl, rfl⟩
  · have hw : wordX x = false := by unfold wordX; simp; omega
    rw [hw]
    have e0 : decide (x = 95) = false := by simp; omega
    have d0 : decide ((x : Int) = 95) = false := by simp; omega
    have e1 : decide (97 ≤ x) = false := by simp; omega
    have d1 : decide (97 ≤ (x : Int)) = false := by simp; omega
    have e2 : decide (x ≤ 122) = true := by simp; omega
    have d2 : decide ((x : Int) ≤ 122) = true := by simp; omega
    have e3 : decide (65 ≤ x) = true := by simp; omega
    have d3 : decide (65 ≤ (x : Int)) = true := by simp; omega
    have e4 : decide (x ≤ 90) = false := by simp; omega
    have d4 : decide ((x : Int) ≤ 90) = false := by simp; omega
    have e5 : decide (48 ≤ x) = true := by simp; omega
    have d5 : decide (48 ≤ (x : Int)) = true := by simp; omega
    have e6 : decide (x ≤ 57) = false := by simp; omega
    have d6 : decide ((x : Int) ≤ 57) = false := by simp; omega
    have e7 : decide (128 ≤ x) = false := by simp; omega
    have d7 : decide (128 ≤ (x : Int)) = false := by simp; omega
    have d8 : ((x : Int) == 95) = false := by simp; omega
    have e8 : (x == 95) = false := by simp; omega
    clear l6 hw
    go_enter Tryd.func46, Tryd.ntmps46
    go_wp2
    go_ret
    exact ⟨rfl, rfl⟩
  · have hw : wordX x = true := by unfold wordX; simp; omega
    rw [hw]
    have e0 : decide (x = 95) = false := by simp; omega
    have d0 : decide ((x : Int) = 95) = false := by simp; omega
    have e1 : decide (97 ≤ x) = true := by simp; omega
    have d1 : decide (97 ≤ (x : Int)) = true := by simp; omega
    have e2 : decide (x ≤ 122) = true := by simp; omega
    have d2 : decide ((x : Int) ≤ 122) = true := by simp; omega
    have e3 : decide (65 ≤ x) = true := by simp; omega
    have d3 : decide (65 ≤ (x : Int)) = true := by simp; omega
    have e4 : decide (x ≤ 90) = false := by simp; omega
    have d4 : decide ((x : Int) ≤ 90) = false := by simp; omega
    have e5 : decide (48 ≤ x) = true := by simp; omega
    have d5 : decide (48 ≤ (x : Int)) = true := by simp; omega
    have e6 : decide (x ≤ 57) = false := by simp; omega
    have d6 : decide ((x : Int) ≤ 57) = false := by simp; omega
    have e7 : decide (128 ≤ x) = false := by simp; omega
    have d7 : decide (128 ≤ (x : Int)) = false := by simp; omega
    have d8 : ((x : Int) == 95) = false := by simp; omega
    have e8 : (x == 95) = false := by simp; omega
    clear l7 hw
    go_enter Tryd.func46, Tryd.ntmps46
    go_wp2
    go_ret
    exact ⟨rfl, rfl⟩
  · have hw : wordX x = false := by unfold wordX; simp; omega
    rw [hw]
    have e0 : decide (x = 95) = false := by simp; omega
    have d0 : decide ((x : Int) = 95) = false := by simp; omega
    have e1 : decide (97 ≤ x) = true := by simp; omega
    have d1 : decide (97 ≤ (x : Int)) = true := by simp; omega
    have e2 : decide (x ≤ 122) = false := by simp; omega
    have d2 : decide ((x : Int) ≤ 122) = false := by simp; omega
    have e3 : decide (65 ≤ x) = true := by simp; omega
    have d3 : decide (65 ≤ (x : Int)) = true := by simp; omega
    have e4 : decide (x ≤ 90) = false := by simp; omega
    have d4 : decide ((x : Int) ≤ 90) = false := by simp; omega
    have e5 : decide (48 ≤ x) = true := by simp; omega
    have d5 : decide (48 ≤ (x : Int)) = true := by simp; omega
    have e6 : decide (x ≤ 57) = false := by simp; omega
    have d6 : decide ((x : Int) ≤ 57) = false := by simp; omega
    have e7 : decide (128 ≤ x) = false := by simp; omega
    have d7 : decide (128 ≤ (x : Int)) = false := by simp; omega
    have d8 : ((x : Int) == 95) = false := by simp; omega
    have e8 : (x == 95) = false := by simp; omega
    clear l8 hw
    go_enter Tryd.func46, Tryd.ntmps46
    go_wp2
    go_ret
    exact ⟨rfl, rfl⟩
  · have hw : wordX x = true := by unfold wordX; simp; omega
    rw [hw]
    have e0 : decide (x = 95) = false := by simp; omega
    have d0 : decide ((x : Int) = 95) = false := by simp; omega
    have e1 : decide (97 ≤ x) = true := by simp; omega
    have d1 : decide (97 ≤ (x : Int)) = true := by simp; omega
    have e2 : decide (x ≤ 122) = false := by simp; omega
    have d2 : decide ((x : Int) ≤ 122) = false := by simp; omega
    have e3 : decide (65 ≤ x) = true := by simp; omega
    have d3 : decide (65 ≤ (x : Int)) = true := by simp; omega
    have e4 : decide (x ≤ 90) = false := by simp; omega
    have d4 : decide ((x : Int) ≤ 90) = false := by simp; omega
    have e5 : decide (48 ≤ x) = true := by simp; omega
    have d5 : decide (48 ≤ (x : Int)) = true := by simp; omega
    have e6 : decide (x ≤ 57) = false := by simp; omega
    have d6 : decide ((x : Int) ≤ 57) = false := by simp; omega
    have e7 : decide (128 ≤ x) = true := by simp; omega
    have d7 : decide (128 ≤ (x : Int)) = true := by simp; omega
    have d8 : ((x : Int) == 95) = false := by simp; omega
    have e8 : (x == 95) = false := by simp; omega
    clear l9 hw
    go_enter Tryd.func46, Tryd.ntmps46
    go_wp2
    go_ret
    exact ⟨rfl, rfl⟩
end Go.Proofs.YtcifakmlfndlaaaDoor
namespace Go.Proofs.YtcifakmlfndlaaaDoor
set_option linter.unusedVariables false
set_option linter.unusedSimpArgs false
open Go.RowKit Go.Shelf
theorem str_idx0 (c : Bs) (x : UInt8) (t : Bs) (hc : c = x :: t) (hl : c.length ≤ 1000000) (W : World) :
    (Instr.index 9 (.string ⟨c.toArray⟩) (.int .i64 0)).run Tryd.prog W = .ok (.int .u8 (x.toNat : Int)) W := by
  have hz : (⟨c.toArray⟩ : ByteArray).size = c.length := str_of c
  have hp : 0 < c.length := by rw [hc]; simp
  have h1 : (0 : Int) ≤ 0 ∧ (0 : Int) < ((⟨c.toArray⟩ : ByteArray).size : Int) := by omega
  rw [run_index_string W 9 (⟨c.toArray⟩ : ByteArray) .i64 0 Tryd.underlying9, dif_pos h1]
  subst hc
  rfl
theorem word_calls (c : Bs) (hc : c ≠ []) (hl : c.length ≤ 1000000) (w : World) :
    Calls Tryd.prog 46 #[.string ⟨c.toArray⟩] w fun e w' => e = .returned (.bool (wordB c)) ∧ w' = w := by
  obtain ⟨x, t, rfl⟩ : ∃ x t, c = x :: t := by
    cases c with
    | nil => exact absurd rfl hc
    | cons x t => exact ⟨x, t, rfl⟩
  exact word_walk _ x.toNat w (fun W => str_idx0 _ x t rfl hl W)
/-- Over clusters to the left that are a word's, or that are none. -/
def skipL (is : Bool) (cs : List Bs) : Nat → Nat
  | 0 => 0
  | k + 1 => if wordB (cs.getD k []) = is then skipL is cs k else k + 1
theorem skipL_le (is : Bool) (cs : List Bs) : (k : Nat) → skipL is cs k ≤ k
  | 0 => Nat.le_refl _
  | k + 1 => by
      unfold skipL
      split
      · have := skipL_le is cs k; omega
      · exact Nat.le_refl _
def skipR (is : Bool) (cs : List Bs) (k : Nat) : Nat := k + ((cs.drop k).takeWhile fun c => decide (wordB c = is)).length
theorem skipR_stop {is : Bool} {cs : List Bs} {k : Nat} (h : k = cs.length ∨ wordB (cs.getD k []) ≠ is) : skipR is cs k = k := by
  unfold skipR
  rcases Nat.lt_or_ge k cs.length with h1 | h1
  · rw [List.drop_eq_getElem_cons h1, List.takeWhile_cons]
    rcases h with h | h
    · omega
    · rw [List.getD_eq_getElem?_getD, List.getElem?_eq_getElem h1, Option.getD_some] at h
      rw [if_neg (by simpa using h)]; rfl
  · rw [List.drop_of_length_le h1]; rfl
theorem skipR_go {is : Bool} {cs : List Bs} {k : Nat} (h1 : k < cs.length) (h : wordB (cs.getD k []) = is) : skipR is cs k = skipR is cs (k + 1) := by
  unfold skipR
  rw [List.getD_eq_getElem?_getD, List.getElem?_eq_getElem h1, Option.getD_some] at h
  rw [List.drop_eq_getElem_cons h1, List.takeWhile_cons, if_pos (by simpa using h), List.length_cons]; omega
theorem skipR_le (is : Bool) (cs : List Bs) {k : Nat} (h : k ≤ cs.length) : k ≤ skipR is cs k ∧ skipR is cs k ≤ cs.length := by
  unfold skipR
  have := (List.takeWhile_sublist (l := cs.drop k) fun c => decide (wordB c = is)).length_le
  rw [List.length_drop] at this
  omega
/-- A cluster, cut out of its text. -/
theorem clus_str {S : Bs} {bq : ByteArray} (hbq : bq = ⟨S.toArray⟩) {k : Nat} (hk : k < (cuts S).length) : bq.extract (off (cuts S) k) (off (cuts S) (k + 1)) = ⟨((cuts S).getD k []).toArray⟩ := by
  rw [hbq, extract_eq, cut_take]
  have h1 : ((cuts S).take (k + 1)).flatten = ((cuts S).take k).flatten ++ (cuts S).getD k [] := by
    rw [List.take_add_one, List.getD_eq_getElem?_getD, List.getElem?_eq_getElem hk, List.flatten_append, Option.getD_some, Option.toList_some, List.flatten_cons, List.flatten_nil, List.append_nil]
  rw [h1, show off (cuts S) k = ((cuts S).take k).flatten.length from rfl, List.drop_left]
/-- WordLeft's closure. -/
theorem wordL_calls {S : Bs} (hS : mkS S = S) (bq : ByteArray) (hbq : bq = ⟨S.toArray⟩) (w0 : World) (hU : U8 w0) (bA bS : Nat) (hA : w0.heap.size ≤ bA) (hBS : w0.heap.size ≤ bS) (hne : bS ≠ bA) (is : Bool) (W : World) (hW : Below w0.heap.size w0 W) (k0 : Nat) (hk0 : k0 ≤ (cuts S).length)
    (ha : W.heap[bA]? = some (.cells #[n64 (off (cuts S) k0)] 3 (0, 0))) (hs : W.heap[bS]? = some (.cells #[.string bq] 9 (0, 0))) :
    Calls Tryd.prog 45 #[.bool is, .pointer (some ⟨bA, 0, none⟩), .pointer (some ⟨bS, 0, none⟩)] W fun e W' => e = .returned (.tuple #[]) ∧ Below w0.heap.size w0 W' ∧ W'.heap[bA]? = some (.cells #[n64 (off (cuts S) (skipL is (cuts S) k0))] 3 (0, 0)) ∧ W'.heap[bS]? = some (.cells #[.string bq] 9 (0, 0)) := by
  have hl6 : S.length ≤ 600 := by rw [← hS]; exact mkS_len S
  have zq : bq.size = S.length := by rw [hbq, str_of]
  have q1 := fun (W : World) (a : Int) (h : U8 W) => Pv_calls S (by omega) bq hbq a W h
  have q2 := fun (k : Nat) (hk : k < (cuts S).length) (W : World) => word_calls ((cuts S).getD k []) (by rw [List.getD_eq_getElem?_getD, List.getElem?_eq_getElem hk]; exact cuts_nz S _ (List.getElem_mem hk)) (by
    have h1 := off_succ (List.getElem?_eq_getElem hk)
    have h2 := off_le S (k + 1)
    rw [List.getD_eq_getElem?_getD, List.getElem?_eq_getElem hk, Option.getD_some]; omega) W
  have Q1 := Lib.hid q1
  have Q2 := Lib.hid q2
  have HQ := Lib.hid hbq
  have HU := Lib.hid hU
  clear q1 q2 hU
  go_enter Tryd.func45, Tryd.ntmps45
  go_wp2
  go_loopw [] (fun wr => ∃ k : Nat, k ≤ (cuts S).length ∧ skipL is (cuts S) k = skipL is (cuts S) k0 ∧ Below w0.heap.size w0 wr ∧ wr.heap[bA]? = some (.cells #[n64 (off (cuts S) k)] 3 (0, 0)) ∧ wr.heap[bS]? = some (.cells #[.string bq] 9 (0, 0))) (fun wr => (intOf ((wr.cell? ⟨bA, 0, none⟩).getD undef)).toNat)
  case atStart => exact ⟨k0, hk0, rfl, hW, ha, hs⟩
  case round =>
    obtain ⟨k, hk, hsk, hB, hca, hcs⟩ := hrel
    cases k with
    | zero =>
      rw [off_zero] at hca
      have c0 := cell_of_one hca
      have c1 := cell_of_one hcs
      have hd : decide ((0 : Int) < ((0 : Nat) : Int)) = false := by simp
      have hsk' : skipL is (cuts S) k0 = 0 := by rw [← hsk]; rfl
      have HSK := Lib.hid hsk'
      clear hsk hsk' Q1 Q2
      go_wp2_with fail
      go_quiet (fail)
      rename_i nq
      have hca' : (wr.drewN nq).heap[bA]? = some (.cells #[n64 0] 3 (0, 0)) := hca
      have hcs' : (wr.drewN nq).heap[bS]? = some (.cells #[.string bq] 9 (0, 0)) := hcs
      have hB' : Below w0.heap.size w0 (wr.drewN nq) := ⟨hB.os, hB.tape, hB.output, hB.size, hB.block⟩
      go_wp2
      ((try simp only [Exit.inBlock, Exit.then]); refine bodyPost_end (results_none rfl _ _ _) rfl ?_)
      exact ⟨rfl, hB', by rw [HSK.out, off_zero]; exact hca', hcs'⟩
    | succ k =>
      obtain ⟨q, hq⟩ : ∃ q, q = off (cuts S) (k + 1) := ⟨_, rfl⟩
      obtain ⟨p, hp⟩ : ∃ p, p = off (cuts S) k := ⟨_, rfl⟩
      obtain ⟨b, hb⟩ : ∃ b, b = wordB ((cuts S).getD k []) := ⟨_, rfl⟩
      have hpq : p < q := by rw [hp, hq]; exact off_lt (cuts_nz S) (by omega) hk
      have hq6 : q ≤ bq.size := by rw [zq, hq]; exact off_le S _
      have hq7 : q ≤ 600 := by omega
      have q1 := fun (W : World) (h : U8 W) => Q1.out W (q : Int) h
      have q2 := Q2.out k (by omega)
      rw [← clus_str HQ.out (by omega), ← hp, ← hq, ← hb] at q2
      rw [hq, prevN_off hS hk, ← hp, ← hq] at q1
      have hskk : skipL is (cuts S) (k + 1) = if b = is then skipL is (cuts S) k else k + 1 := by rw [hb]; rfl
      rw [hskk] at hsk
      rw [← hq] at hca
      have HP := Lib.hid hp
      have HPQ := Lib.hid hq
      have HSK := Lib.hid hsk
      have Q3 := Lib.hid q1
      have Q4 := Lib.hid q2
      have c0 := cell_of_one hca
      have c1 := cell_of_one hcs
      have hd : decide ((0 : Int) < (q : Int)) = true := by simp; omega
      have hd2 : decide (0 < q) = true := by simp; omega
      have hpq2 : (p : Int) ≤ (q : Int) := by omega
      have hqq2 : (q : Int) ≤ (bq.size : Int) := by omega
      have hp0 : (0 : Int) ≤ (p : Int) := by omega
      have HCA := Lib.hid hca
      have HCS := Lib.hid hcs
      have lA := lt_of_heap hca
      have lS := lt_of_heap hcs
      have HB := Lib.hid hB
      clear zq hp hq hb hskk hsk q1 q2 hca hcs hB Q1 Q2 hW ha hs hbq hk0
      go_wp2_with fail
      go_region_held3 (fun w' => w'.cell? ⟨bA, 0, none⟩ = some (n64 q) ∧ w'.cell? ⟨bS, 0, none⟩ = some (.string bq)) (first | exact ⟨c0, c1⟩ | exact ⟨x0, x1⟩) (first
        | (go_at_call 25; (with_reducible refine (Q3.out wr.drew (HU.out.later HB.out.drew)).mono ?_); rintro e w3 ⟨rfl, hb3⟩; have D3 : Below wr.heap.size wr w3 := ((Below.refl _ wr).drew).trans hb3; have x0 := cell_of_one ((D3.block _ lA).trans HCA.out); have x1 := cell_of_one ((D3.block _ lS).trans HCS.out))
        | (go_at_call 46; (with_reducible refine (Q4.out w3).mono ?_); rintro e w4 ⟨rfl, hw4⟩; subst hw4))
      by_cases hbi : b = is
      · have he : (b == is) = true := by simp [hbi]
        rw [he]
        go_wp2_with fail
        have B4 : Below w0.heap.size w0 w4 := HB.out.trans (D3.mono HB.out.size)
        refine (Q3.out w4 (HU.out.later B4)).mono ?_
        rintro e w5 ⟨rfl, hb5⟩
        have D5 : Below wr.heap.size wr w5 := D3.trans (hb5.mono D3.size)
        have h6 := (D5.block _ lA).trans HCA.out
        have h7 := (D5.block _ lS).trans HCS.out
        have B5 : Below w0.heap.size w0 w5 := HB.out.trans (D5.mono HB.out.size)
        have y0 := cell_of_one h6
        have y1 := free_of_one h6
        have H6 := Lib.hid h6
        have H7 := Lib.hid h7
        have HB5 := Lib.hid B5
        clear h6 h7 B5 B4 D5 D3 hb5 x0 x1 hb3
        go_wp2
        have h8 := one_setCell (u := n64 p) H6.out
        go_roundw
        case rel =>
          have hsk := HSK.out
          rw [if_pos hbi] at hsk
          exact ⟨k, by omega, hsk, HB5.out.setCell (p := ⟨bA, 0, none⟩) hA _, by rw [← HP.out]; exact h8, (Below.heap_setCell _ _ _ _ hne).trans H7.out⟩
        case measure =>
          rw [cell_of_one h8, c0]
          simp [intOf]; omega
      · have he : (b == is) = false := by simp [hbi]
        rw [he]
        have B4 : Below w0.heap.size w0 w4 := HB.out.trans (D3.mono HB.out.size)
        have hsk := HSK.out
        rw [if_neg hbi] at hsk
        have HSK := Lib.hid hsk
        have h6 := (D3.block _ lA).trans HCA.out
        have h7 := (D3.block _ lS).trans HCS.out
        clear hsk
        go_wp2
        ((try simp only [Exit.inBlock, Exit.then]); refine bodyPost_end (results_none rfl _ _ _) rfl ?_)
        exact ⟨rfl, B4, by rw [← HSK.out, ← HPQ.out]; exact h6, h7⟩
end Go.Proofs.YtcifakmlfndlaaaDoor
namespace Go.Proofs.YtcifakmlfndlaaaDoor
set_option linter.unusedVariables false
set_option linter.unusedSimpArgs false
open Go.RowKit Go.Shelf
/-- WordRight's closure. -/
theorem wordR_calls {S : Bs} (hS : mkS S = S) (bq : ByteArray) (hbq : bq = ⟨S.toArray⟩) (w0 : World) (hU : U8 w0) (bA bS : Nat) (hA : w0.heap.size ≤ bA) (hBS : w0.heap.size ≤ bS) (hne : bS ≠ bA) (is : Bool) (W : World) (hW : Below w0.heap.size w0 W) (k0 : Nat) (hk0 : k0 ≤ (cuts S).length)
    (ha : W.heap[bA]? = some (.cells #[n64 (off (cuts S) k0)] 3 (0, 0))) (hs : W.heap[bS]? = some (.cells #[.string bq] 9 (0, 0))) :
    Calls Tryd.prog 47 #[.bool is, .pointer (some ⟨bA, 0, none⟩), .pointer (some ⟨bS, 0, none⟩)] W fun e W' => e = .returned (.tuple #[]) ∧ Below w0.heap.size w0 W' ∧ W'.heap[bA]? = some (.cells #[n64 (off (cuts S) (skipR is (cuts S) k0))] 3 (0, 0)) ∧ W'.heap[bS]? = some (.cells #[.string bq] 9 (0, 0)) := by
  have hl6 : S.length ≤ 600 := by rw [← hS]; exact mkS_len S
  have zq : bq.size = S.length := by rw [hbq, str_of]
  have q1 := fun (W : World) (a : Int) (h : U8 W) => Nx_calls S (by omega) bq hbq a W h
  have q2 := fun (k : Nat) (hk : k < (cuts S).length) (W : World) => word_calls ((cuts S).getD k []) (by rw [List.getD_eq_getElem?_getD, List.getElem?_eq_getElem hk]; exact cuts_nz S _ (List.getElem_mem hk)) (by
    have h1 := off_succ (List.getElem?_eq_getElem hk)
    have h2 := off_le S (k + 1)
    rw [List.getD_eq_getElem?_getD, List.getElem?_eq_getElem hk, Option.getD_some]; omega) W
  have Q1 := Lib.hid q1
  have Q2 := Lib.hid q2
  have HQ := Lib.hid hbq
  have HU := Lib.hid hU
  clear q1 q2 hU
  go_enter Tryd.func47, Tryd.ntmps47
  go_wp2
  go_loopw [] (fun wr => ∃ k : Nat, k ≤ (cuts S).length ∧ skipR is (cuts S) k = skipR is (cuts S) k0 ∧ Below w0.heap.size w0 wr ∧ wr.heap[bA]? = some (.cells #[n64 (off (cuts S) k)] 3 (0, 0)) ∧ wr.heap[bS]? = some (.cells #[.string bq] 9 (0, 0))) (fun wr => S.length - (intOf ((wr.cell? ⟨bA, 0, none⟩).getD undef)).toNat)
  case atStart => exact ⟨k0, hk0, rfl, hW, ha, hs⟩
  case round =>
    obtain ⟨k, hk, hsk, hB, hca, hcs⟩ := hrel
    rcases Nat.lt_or_ge k (cuts S).length with hlt | hge
    rotate_left
    · have hkl : k = (cuts S).length := by omega
      subst hkl
      obtain ⟨q, hq⟩ : ∃ q, q = off (cuts S) (cuts S).length := ⟨_, rfl⟩
      have hqs : q = bq.size := by rw [hq, zq, off_len]
      rw [skipR_stop (.inl rfl)] at hsk
      rw [← hq] at hca
      have c0 := cell_of_one hca
      have c1 := cell_of_one hcs
      have hd : decide ((q : Int) < (bq.size : Int)) = false := by simp; omega
      have hd2 : decide (q < bq.size) = false := by simp; omega
      have HSK := Lib.hid hsk
      have HPQ := Lib.hid hq
      clear hsk Q1 Q2 zq hq
      go_wp2_with fail
      go_quiet (fail)
      rename_i nq
      have hca' : (wr.drewN nq).heap[bA]? = some (.cells #[n64 q] 3 (0, 0)) := hca
      have hcs' : (wr.drewN nq).heap[bS]? = some (.cells #[.string bq] 9 (0, 0)) := hcs
      have hB' : Below w0.heap.size w0 (wr.drewN nq) := ⟨hB.os, hB.tape, hB.output, hB.size, hB.block⟩
      go_wp2
      go_end0
      exact ⟨rfl, hB', by rw [← HSK.out, ← HPQ.out]; exact hca', hcs'⟩
    · have hk := hlt
      obtain ⟨q, hq⟩ : ∃ q, q = off (cuts S) k := ⟨_, rfl⟩
      obtain ⟨p, hp⟩ : ∃ p, p = off (cuts S) (k + 1) := ⟨_, rfl⟩
      obtain ⟨b, hb⟩ : ∃ b, b = wordB ((cuts S).getD k []) := ⟨_, rfl⟩
      have hpq : q < p := by rw [hp, hq]; exact off_lt (cuts_nz S) (by omega) hk
      have hq6 : p ≤ bq.size := by rw [zq, hp]; exact off_le S _
      have hps : p ≤ S.length := by rw [hp]; exact off_le S _
      have hq8 : bq.size ≤ 600 := by omega
      have hq7 : p ≤ 600 := by omega
      have q1 := fun (W : World) (h : U8 W) => Q1.out W (q : Int) h
      have q2 := Q2.out k (by omega)
      rw [← clus_str HQ.out (by omega), ← hq, ← hp, ← hb] at q2
      rw [hq, nextN_off hS hk, ← hp, ← hq] at q1
      have hskk : skipR is (cuts S) k = if b = is then skipR is (cuts S) (k + 1) else k := by
        split
        · rename_i h; exact skipR_go hk (by rw [← hb]; exact h)
        · rename_i h; exact skipR_stop (.inr (by rw [← hb]; exact h))
      rw [hskk] at hsk
      rw [← hq] at hca
      have HP := Lib.hid hp
      have HPQ := Lib.hid hq
      have HSK := Lib.hid hsk
      have Q3 := Lib.hid q1
      have Q4 := Lib.hid q2
      have c0 := cell_of_one hca
      have c1 := cell_of_one hcs
      have hd : decide ((q : Int) < (bq.size : Int)) = true := by simp; omega
      have hd2 : decide (q < bq.size) = true := by simp; omega
      have hpq2 : (q : Int) ≤ (p : Int) := by omega
      have hqq2 : (p : Int) ≤ (bq.size : Int) := by omega
      have hp0 : (0 : Int) ≤ (q : Int) := by omega
      have HCA := Lib.hid hca
      have HCS := Lib.hid hcs
      have lA := lt_of_heap hca
      have lS := lt_of_heap hcs
      have HB := Lib.hid hB
      clear zq hp hq hb hskk hsk q1 q2 hca hcs hB Q1 Q2 hW ha hs hbq hk0
      go_wp2_with fail
      go_region_held3 (fun w' => w'.cell? ⟨bA, 0, none⟩ = some (n64 q) ∧ w'.cell? ⟨bS, 0, none⟩ = some (.string bq)) (first | exact ⟨c0, c1⟩ | exact ⟨x0, x1⟩) (first
        | (go_at_call 26; (with_reducible refine (Q3.out wr.drew (HU.out.later HB.out.drew)).mono ?_); rintro e w3 ⟨rfl, hb3⟩; have D3 : Below wr.heap.size wr w3 := ((Below.refl _ wr).drew).trans hb3; have x0 := cell_of_one ((D3.block _ lA).trans HCA.out); have x1 := cell_of_one ((D3.block _ lS).trans HCS.out))
        | (go_at_call 46; (with_reducible refine (Q4.out w3).mono ?_); rintro e w4 ⟨rfl, hw4⟩; subst hw4))
      by_cases hbi : b = is
      · have he : (b == is) = true := by simp [hbi]
        rw [he]
        go_wp2_with fail
        have B4 : Below w0.heap.size w0 w4 := HB.out.trans (D3.mono HB.out.size)
        refine (Q3.out w4 (HU.out.later B4)).mono ?_
        rintro e w5 ⟨rfl, hb5⟩
        have D5 : Below wr.heap.size wr w5 := D3.trans (hb5.mono D3.size)
        have h6 := (D5.block _ lA).trans HCA.out
        have h7 := (D5.block _ lS).trans HCS.out
        have B5 : Below w0.heap.size w0 w5 := HB.out.trans (D5.mono HB.out.size)
        have y0 := cell_of_one h6
        have y1 := free_of_one h6
        have H6 := Lib.hid h6
        have H7 := Lib.hid h7
        have HB5 := Lib.hid B5
        clear h6 h7 B5 B4 D5 D3 hb5 x0 x1 hb3
        go_wp2
        have h8 := one_setCell (u := n64 p) H6.out
        go_roundw
        case rel =>
          have hsk := HSK.out
          rw [if_pos hbi] at hsk
          exact ⟨k + 1, by omega, hsk, HB5.out.setCell (p := ⟨bA, 0, none⟩) hA _, by rw [← HP.out]; exact h8, (Below.heap_setCell _ _ _ _ hne).trans H7.out⟩
        case measure =>
          rw [cell_of_one h8, c0]
          simp [intOf]; omega
      · have he : (b == is) = false := by simp [hbi]
        rw [he]
        have B4 : Below w0.heap.size w0 w4 := HB.out.trans (D3.mono HB.out.size)
        have hsk := HSK.out
        rw [if_neg hbi] at hsk
        have HSK := Lib.hid hsk
        have h6 := (D3.block _ lA).trans HCA.out
        have h7 := (D3.block _ lS).trans HCS.out
        clear hsk
        go_wp2
        ((try simp only [Exit.inBlock, Exit.then]); refine bodyPost_end (results_none rfl _ _ _) rfl ?_)
        exact ⟨rfl, B4, by rw [← HSK.out, ← HPQ.out]; exact h6, h7⟩
end Go.Proofs.YtcifakmlfndlaaaDoor
namespace Go.Proofs.YtcifakmlfndlaaaDoor
set_option linter.unusedVariables false
set_option linter.unusedSimpArgs false
open Go.RowKit Go.Shelf
set_option maxRecDepth 100000 in
set_option maxHeartbeats 1600000 in
/-- WordLeft. -/
theorem WordLeft_calls (l : Bs) (hl : l.length ≤ 1000000) (s : ByteArray) (hs : s = ⟨l.toArray⟩) (a : Int) (k : Nat) (hk : k ≤ (cuts (mkS l)).length) (hb : back (mkS l) a = off (cuts (mkS l)) k) (w : World) (hU : U8 w) :
    Calls Tryd.prog 27 #[.string s, .int .i64 a] w fun e w' => e = .returned (n64 (off (cuts (mkS l)) (skipL true (cuts (mkS l)) (skipL false (cuts (mkS l)) k)))) ∧ Below w.heap.size w w' := by
  obtain ⟨W0, hW0⟩ : ∃ W0, W0 = (w.alloc (.cells #[.string s] 9)).alloc (.cells #[.int .i64 a] 3) := ⟨_, rfl⟩
  have hB0 : Below w.heap.size w W0 := by rw [hW0]; exact ((Below.refl _ w).alloc (Nat.le_refl _) _).alloc (by simp) _
  have hb0 : W0.heap[w.heap.size]? = some (.cells #[.string s] 9 (0, 0)) := by rw [hW0]; exact (Below.heap_alloc _ _ _ (by simp)).trans (heap_alloc_new w _)
  have hb1 : W0.heap[w.heap.size + 1]? = some (.cells #[.int .i64 a] 3 (0, 0)) := by
    rw [hW0]
    have := heap_alloc_new (w.alloc (.cells #[.string s] 9)) (.cells #[.int .i64 a] 3)
    rwa [World.size_alloc] at this
  have hz0 : W0.heap.size = w.heap.size + 1 + 1 := by rw [hW0]; simp
  have hml := mkS_len l
  obtain ⟨bq, hbq⟩ : ∃ s : ByteArray, s = ⟨(mkS l).toArray⟩ := ⟨_, rfl⟩
  have q1 := Make_calls l (by omega) s hs 0 W0 (hU.later hB0)
  obtain ⟨k0, hk0⟩ : ∃ k, k = back (mkS l) 0 := ⟨_, rfl⟩
  rw [show bufV (mkS l) (back (mkS l) 0) = .agg #[.string bq, .int .i64 (k0 : Int)] by rw [hbq, hk0]] at q1
  have q3 := fun (W : World) => back_calls (mkS l) (by omega) bq hbq a W
  rw [hb] at q3
  have hS := mkS_mkS l
  obtain ⟨S, hSe⟩ : ∃ S, S = mkS l := ⟨_, rfl⟩
  rw [← hSe] at hS q3 hk hbq ⊢
  have q4 := fun (is : Bool) (W : World) (hW : Below w.heap.size w W) (k0 : Nat) (hk0 : k0 ≤ (cuts S).length) ha hs => wordL_calls hS bq hbq w hU (w.heap.size + 1) w.heap.size (by omega) (Nat.le_refl _) (by omega) is W hW k0 hk0 ha hs
  have Q1 := Lib.hid q1
  have Q3 := Lib.hid q3
  have Q4 := Lib.hid q4
  have H0 := Lib.hid hb0
  have H1 := Lib.hid hb1
  have HW := Lib.hid hW0
  have HB0 := Lib.hid hB0
  have c0 := cell_of_one hb0
  have c1 := cell_of_one hb1
  obtain ⟨q, hq⟩ : ∃ q, q = off (cuts S) k := ⟨_, rfl⟩
  rw [← hq] at Q3
  have HQ := Lib.hid hq
  have hfld : ∀ (W : World), (Instr.field 25 (.agg #[.string bq, .int .i64 (k0 : Int)]) 0).run Tryd.prog W = .ok (.string bq) W := fun _ => by kernel_rfl
  have hmf : ∀ (fn : Fn) (first cap : Array Value) (w : World), (Instr.makeFunc fn first cap).run Tryd.prog w = .ok (.func fn first cap) w := fun _ _ _ _ => rfl
  clear hs hU hbq q1 q3 q4 hb0 hb1 hW0 hB0 hml hl hb hk0 hSe hq
  go_enter Tryd.func27, Tryd.ntmps27
  go_wp2_with fail
  rw [← HW.out]
  refine Q1.out.mono ?_
  rintro e w1 ⟨rfl, hb1⟩
  have h0 := (hb1.block _ (by omega)).trans H0.out
  have h1 := (hb1.block _ (by omega)).trans H1.out
  have B1 := HB0.out.trans (hb1.mono (by omega))
  have x0 := cell_of_one h0
  have x1 := free_of_one h0
  have hset : ∀ u, ∃ W, w1.setCell ⟨w.heap.size, 0, none⟩ u = W ∧ Below w.heap.size w W ∧ W.heap[w.heap.size]? = some (.cells #[u] 9 (0, 0)) ∧ W.heap[w.heap.size + 1]? = some (.cells #[.int .i64 a] 3 (0, 0)) := fun u =>
    ⟨_, rfl, B1.setCell (p := ⟨w.heap.size, 0, none⟩) (Nat.le_refl _) u, one_setCell h0, (Below.heap_setCell _ _ _ _ (by simp)).trans h1⟩
  have HST := Lib.hid hset
  have x2 := cell_of_one h1
  clear hset h0 h1 B1 c0 c1
  go_wp2_with fail
  obtain ⟨w2, e2, B2, h0, h1⟩ := HST.out (.string bq)
  rw [e2]
  clear e2 x0 x1
  have y0 := cell_of_one h0
  have y1 := cell_of_one h1
  have L0 := lt_of_heap h0
  have L1 := lt_of_heap h1
  have HB2 := Lib.hid B2
  have K0 := Lib.hid h0
  have K1 := Lib.hid h1
  clear B2 h0 h1
  refine (Q3.out w2).mono ?_
  rintro e w3 ⟨rfl, hb3⟩
  have h0 := (hb3.block _ L0).trans K0.out
  have h1 := (hb3.block _ L1).trans K1.out
  have B3 := HB2.out.trans (hb3.mono HB2.out.size)
  have x0 := cell_of_one h1
  have x1 := free_of_one h1
  have hset : ∃ W, w3.setCell ⟨w.heap.size + 1, 0, none⟩ (n64 q) = W ∧ Below w.heap.size w W ∧ W.heap[w.heap.size + 1]? = some (.cells #[n64 q] 3 (0, 0)) ∧ W.heap[w.heap.size]? = some (.cells #[.string bq] 9 (0, 0)) :=
    ⟨_, rfl, B3.setCell (p := ⟨w.heap.size + 1, 0, none⟩) (by simp) _, one_setCell h1, (Below.heap_setCell _ _ _ _ (by simp)).trans h0⟩
  have HST := Lib.hid hset
  clear hset h0 h1 B3 y0 y1
  go_wp2_with fail
  obtain ⟨w4, e4, B4, h1, h0⟩ := HST.out
  rw [e4]
  clear e4 x0 x1
  rw [HQ.out] at h1
  have q5 := Q4.out false w4 B4 k hk h1 h0
  have Q5 := Lib.hid q5
  clear q5 h1 h0 B4
  refine Q5.out.mono ?_
  rintro e w5 ⟨rfl, B5, h1, h0⟩
  have q6 := Q4.out true w5 B5 (skipL false (cuts S) k) (Nat.le_trans (skipL_le _ _ _) hk) h1 h0
  have Q6 := Lib.hid q6
  clear q6 h1 h0 B5
  go_wp2_with fail
  refine Q6.out.mono ?_
  rintro e w6 ⟨rfl, B6, h1, h0⟩
  have x0 := cell_of_one h1
  have HB6 := Lib.hid B6
  clear B6 h1 h0
  go_wp2
  go_ret
  exact ⟨rfl, HB6.out⟩
end Go.Proofs.YtcifakmlfndlaaaDoor
namespace Go.Proofs.YtcifakmlfndlaaaDoor
set_option linter.unusedVariables false
set_option linter.unusedSimpArgs false
open Go.RowKit Go.Shelf
set_option maxRecDepth 100000 in
set_option maxHeartbeats 1600000 in
/-- WordRight. -/
theorem WordRight_calls (l : Bs) (hl : l.length ≤ 1000000) (s : ByteArray) (hs : s = ⟨l.toArray⟩) (a : Int) (k : Nat) (hk : k ≤ (cuts (mkS l)).length) (hb : back (mkS l) a = off (cuts (mkS l)) k) (w : World) (hU : U8 w) :
    Calls Tryd.prog 28 #[.string s, .int .i64 a] w fun e w' => e = .returned (n64 (off (cuts (mkS l)) (skipR true (cuts (mkS l)) (skipR false (cuts (mkS l)) k)))) ∧ Below w.heap.size w w' := by
  obtain ⟨W0, hW0⟩ : ∃ W0, W0 = (w.alloc (.cells #[.string s] 9)).alloc (.cells #[.int .i64 a] 3) := ⟨_, rfl⟩
  have hB0 : Below w.heap.size w W0 := by rw [hW0]; exact ((Below.refl _ w).alloc (Nat.le_refl _) _).alloc (by simp) _
  have hb0 : W0.heap[w.heap.size]? = some (.cells #[.string s] 9 (0, 0)) := by rw [hW0]; exact (Below.heap_alloc _ _ _ (by simp)).trans (heap_alloc_new w _)
  have hb1 : W0.heap[w.heap.size + 1]? = some (.cells #[.int .i64 a] 3 (0, 0)) := by
    rw [hW0]
    have := heap_alloc_new (w.alloc (.cells #[.string s] 9)) (.cells #[.int .i64 a] 3)
    rwa [World.size_alloc] at this
  have hz0 : W0.heap.size = w.heap.size + 1 + 1 := by rw [hW0]; simp
  have hml := mkS_len l
  obtain ⟨bq, hbq⟩ : ∃ s : ByteArray, s = ⟨(mkS l).toArray⟩ := ⟨_, rfl⟩
  have q1 := Make_calls l (by omega) s hs 0 W0 (hU.later hB0)
  obtain ⟨k0, hk0⟩ : ∃ k, k = back (mkS l) 0 := ⟨_, rfl⟩
  rw [show bufV (mkS l) (back (mkS l) 0) = .agg #[.string bq, .int .i64 (k0 : Int)] by rw [hbq, hk0]] at q1
  have q3 := fun (W : World) => back_calls (mkS l) (by omega) bq hbq a W
  rw [hb] at q3
  have hS := mkS_mkS l
  obtain ⟨S, hSe⟩ : ∃ S, S = mkS l := ⟨_, rfl⟩
  rw [← hSe] at hS q3 hk hbq ⊢
  have q4 := fun (is : Bool) (W : World) (hW : Below w.heap.size w W) (k0 : Nat) (hk0 : k0 ≤ (cuts S).length) ha hs => wordR_calls hS bq hbq w hU (w.heap.size + 1) w.heap.size (by omega) (Nat.le_refl _) (by omega) is W hW k0 hk0 ha hs
  have Q1 := Lib.hid q1
  have Q3 := Lib.hid q3
  have Q4 := Lib.hid q4
  have H0 := Lib.hid hb0
  have H1 := Lib.hid hb1
  have HW := Lib.hid hW0
  have HB0 := Lib.hid hB0
  have c0 := cell_of_one hb0
  have c1 := cell_of_one hb1
  obtain ⟨q, hq⟩ : ∃ q, q = off (cuts S) k := ⟨_, rfl⟩
  rw [← hq] at Q3
  have HQ := Lib.hid hq
  have hfld : ∀ (W : World), (Instr.field 25 (.agg #[.string bq, .int .i64 (k0 : Int)]) 0).run Tryd.prog W = .ok (.string bq) W := fun _ => by kernel_rfl
  have hmf : ∀ (fn : Fn) (first cap : Array Value) (w : World), (Instr.makeFunc fn first cap).run Tryd.prog w = .ok (.func fn first cap) w := fun _ _ _ _ => rfl
  clear hs hU hbq q1 q3 q4 hb0 hb1 hW0 hB0 hml hl hb hk0 hSe hq
  go_enter Tryd.func28, Tryd.ntmps28
  go_wp2_with fail
  rw [← HW.out]
  refine Q1.out.mono ?_
  rintro e w1 ⟨rfl, hb1⟩
  have h0 := (hb1.block _ (by omega)).trans H0.out
  have h1 := (hb1.block _ (by omega)).trans H1.out
  have B1 := HB0.out.trans (hb1.mono (by omega))
  have x0 := cell_of_one h0
  have x1 := free_of_one h0
  have hset : ∀ u, ∃ W, w1.setCell ⟨w.heap.size, 0, none⟩ u = W ∧ Below w.heap.size w W ∧ W.heap[w.heap.size]? = some (.cells #[u] 9 (0, 0)) ∧ W.heap[w.heap.size + 1]? = some (.cells #[.int .i64 a] 3 (0, 0)) := fun u =>
    ⟨_, rfl, B1.setCell (p := ⟨w.heap.size, 0, none⟩) (Nat.le_refl _) u, one_setCell h0, (Below.heap_setCell _ _ _ _ (by simp)).trans h1⟩
  have HST := Lib.hid hset
  have x2 := cell_of_one h1
  clear hset h0 h1 B1 c0 c1
  go_wp2_with fail
  obtain ⟨w2, e2, B2, h0, h1⟩ := HST.out (.string bq)
  rw [e2]
  clear e2 x0 x1
  have y0 := cell_of_one h0
  have y1 := cell_of_one h1
  have L0 := lt_of_heap h0
  have L1 := lt_of_heap h1
  have HB2 := Lib.hid B2
  have K0 := Lib.hid h0
  have K1 := Lib.hid h1
  clear B2 h0 h1
  refine (Q3.out w2).mono ?_
  rintro e w3 ⟨rfl, hb3⟩
  have h0 := (hb3.block _ L0).trans K0.out
  have h1 := (hb3.block _ L1).trans K1.out
  have B3 := HB2.out.trans (hb3.mono HB2.out.size)
  have x0 := cell_of_one h1
  have x1 := free_of_one h1
  have hset : ∃ W, w3.setCell ⟨w.heap.size + 1, 0, none⟩ (n64 q) = W ∧ Below w.heap.size w W ∧ W.heap[w.heap.size + 1]? = some (.cells #[n64 q] 3 (0, 0)) ∧ W.heap[w.heap.size]? = some (.cells #[.string bq] 9 (0, 0)) :=
    ⟨_, rfl, B3.setCell (p := ⟨w.heap.size + 1, 0, none⟩) (by simp) _, one_setCell h1, (Below.heap_setCell _ _ _ _ (by simp)).trans h0⟩
  have HST := Lib.hid hset
  clear hset h0 h1 B3 y0 y1
  go_wp2_with fail
  obtain ⟨w4, e4, B4, h1, h0⟩ := HST.out
  rw [e4]
  clear e4 x0 x1
  rw [HQ.out] at h1
  have q5 := Q4.out false w4 B4 k hk h1 h0
  have Q5 := Lib.hid q5
  clear q5 h1 h0 B4
  refine Q5.out.mono ?_
  rintro e w5 ⟨rfl, B5, h1, h0⟩
  have q6 := Q4.out true w5 B5 (skipR false (cuts S) k) (skipR_le false _ hk).2 h1 h0
  have Q6 := Lib.hid q6
  clear q6 h1 h0 B5
  go_wp2_with fail
  refine Q6.out.mono ?_
  rintro e w6 ⟨rfl, B6, h1, h0⟩
  have x0 := cell_of_one h1
  have HB6 := Lib.hid B6
  clear B6 h1 h0
  go_wp2
  go_ret
  exact ⟨rfl, HB6.out⟩
def firstS (l : Bs) : Bs := (mkS l).take (off (cuts (mkS l)) (skipR true (cuts (mkS l)) (skipR false (cuts (mkS l)) 0)))
set_option maxRecDepth 100000 in
set_option maxHeartbeats 800000 in
theorem First_calls (l : Bs) (hl : l.length ≤ 1000000) (s : ByteArray) (hs : s = ⟨l.toArray⟩) (w : World) (hU : U8 w) :
    Calls Tryd.prog 29 #[.string s] w fun e w' => e = .returned (.string ⟨(firstS l).toArray⟩) ∧ Below w.heap.size w w' := by
  have hml := mkS_len l
  obtain ⟨bq, hbq⟩ : ∃ s : ByteArray, s = ⟨(mkS l).toArray⟩ := ⟨_, rfl⟩
  have zq : bq.size = (mkS l).length := by rw [hbq, str_of]
  have q1 := Make_calls l (by omega) s hs 0 w hU
  obtain ⟨k0, hk0⟩ : ∃ k, k = back (mkS l) 0 := ⟨_, rfl⟩
  rw [show bufV (mkS l) (back (mkS l) 0) = .agg #[.string bq, .int .i64 (k0 : Int)] by rw [hbq, hk0]] at q1
  have hb0 : back (mkS (mkS l)) 0 = off (cuts (mkS (mkS l))) 0 := back_eq ⟨Nat.zero_le _, .inr rfl, fun j h1 h2 => by
    have := off_lt (cuts_nz (mkS (mkS l))) h1 h2
    rw [off_zero] at this; omega⟩
  have q2 := fun (W : World) (h : U8 W) => WordRight_calls (mkS l) (by omega) bq hbq 0 0 (Nat.zero_le _) hb0 W h
  rw [mkS_mkS] at q2
  have hf : firstS l = (mkS l).take (off (cuts (mkS l)) (skipR true (cuts (mkS l)) (skipR false (cuts (mkS l)) 0))) := rfl
  have hol := off_le (mkS l) (skipR true (cuts (mkS l)) (skipR false (cuts (mkS l)) 0))
  obtain ⟨n, hn⟩ : ∃ n, n = off (cuts (mkS l)) (skipR true (cuts (mkS l)) (skipR false (cuts (mkS l)) 0)) := ⟨_, rfl⟩
  rw [← hn] at q2 hf hol
  have hnq : (n : Int) ≤ (bq.size : Int) := by omega
  have hn0 : (0 : Int) ≤ (n : Int) := by omega
  have hr : bq.extract 0 n = ⟨(firstS l).toArray⟩ := by rw [hbq, extract_eq, hf]; simp
  have Q1 := Lib.hid q1
  have Q2 := Lib.hid q2
  have HR := Lib.hid hr
  have HU := Lib.hid hU
  have hfld : ∀ (W : World), (Instr.field 25 (.agg #[.string bq, .int .i64 (k0 : Int)]) 0).run Tryd.prog W = .ok (.string bq) W := fun _ => by kernel_rfl
  clear q1 q2 hr hf hn hol hb0 hk0 zq hbq hU hs hl hml
  go_enter Tryd.func29, Tryd.ntmps29
  go_wp2_with fail
  refine Q1.out.mono ?_
  rintro e w1 ⟨rfl, hb1⟩
  go_wp2_with fail
  refine (Q2.out w1 (HU.out.later hb1)).mono ?_
  rintro e w2 ⟨rfl, hb2⟩
  go_wp2
  go_ret
  exact ⟨by rw [← HR.out]; rfl, hb1.trans (hb2.mono hb1.size)⟩
end Go.Proofs.YtcifakmlfndlaaaDoor
