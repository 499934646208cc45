import Derived.Test.YtkpfendodmfeoaaTw1
namespace Go.Proofs.Ytkpfendodmfeoaa
set_option linter.unusedVariables false
set_option linter.unusedSimpArgs false
open Go.RowKit
theorem com_at : (a b : Bs) → (k : Nat) → k < com a b → ∃ x, a[k]? = some x ∧ b[k]? = some x
  | [], b, k, h => by cases b <;> simp [com] at h
  | _ :: _, [], k, h => by simp [com] at h
  | x :: a, y :: b, k, h => by
      unfold com at h
      split at h
      · rename_i e
        subst e
        cases k with
        | zero => exact ⟨x, rfl, rfl⟩
        | succ k =>
          obtain ⟨z, h1, h2⟩ := com_at a b k (by omega)
          exact ⟨z, by simpa using h1, by simpa using h2⟩
      · omega
/-- The world is as it was, but for draws. -/
def Dr (w w' : World) : Prop := ∃ n, w' = w.drewN n
theorem Dr.refl (w : World) : Dr w w := ⟨0, rfl⟩
theorem Dr.heap {w w' : World} (h : Dr w w') : w'.heap = w.heap := by obtain ⟨n, rfl⟩ := h; rfl
theorem Dr.trans {a b c : World} (h : Dr a b) (k : Dr b c) : Dr a c := by
  obtain ⟨n, rfl⟩ := h
  obtain ⟨m, rfl⟩ := k
  exact ⟨n + m, by simp [World.drewN_drewN]⟩
theorem byte_at {s : ByteArray} {l : Bs} (hs : s = ⟨l.toArray⟩) {k : Nat} (h : k < s.size) {x : UInt8} (hx : l[k]? = some x) : s[k]'h = x := by
  subst hs
  have h' : k < l.length := by simpa [ByteArray.size] using h
  rw [List.getElem?_eq_getElem h'] at hx
  cases hx
  rfl
set_option maxHeartbeats 800000 in
theorem common_calls (a b : Bs) (s t : ByteArray) (hs : s = ⟨a.toArray⟩) (ht : t = ⟨b.toArray⟩) (ha : a.length ≤ 4294967296) (hb : b.length ≤ 4294967296) (w : World) :
    Calls Try.prog 33 #[.string s, .string t] w fun e w' => e = .returned (n64 (com a b)) ∧ Dr w w' := by
  have hsz : s.size = a.length := by rw [hs, str_of]
  have htz : t.size = b.length := by rw [ht, str_of]
  have hcl := com_le a b
  obtain ⟨m, hm⟩ : ∃ m, m = com a b := ⟨_, rfl⟩
  rw [← hm] at hcl ⊢
  have HS := Lib.hid hs
  have HT := Lib.hid ht
  have HM := Lib.hid hm
  have hs1 : s.size ≤ 4294967296 := by omega
  have ht1 : t.size ≤ 4294967296 := by omega
  have hm1 : m ≤ s.size := by omega
  have hm2 : m ≤ t.size := by omega
  have HSZ := Lib.hid hsz
  have HTZ := Lib.hid htz
  clear hs ht hm hsz htz hcl
  by_cases hts : t.size < s.size
  all_goals
    go_enter Try.func33, Try.ntmps33
    go_wp2
    go_loopw [5] (fun u5 wr => ∃ k nd : Nat, u5 = .int .i64 k ∧ wr = w.drewN nd ∧ k ≤ m) (fun u5 _ => m - (intOf u5).toNat)
    case atStart => exact ⟨0, 0, rfl, rfl, Nat.zero_le _⟩
    case round =>
      obtain ⟨k, nd, rfl, rfl, hk⟩ := hrel
      by_cases hkm : k < m
      · have h1 : k < s.size := by omega
        have h2 : k < t.size := by omega
        obtain ⟨x, x1, x2⟩ := com_at a b k (by rw [← HM.out]; exact hkm)
        have y1 := byte_at HS.out h1 x1
        have y2 := byte_at HT.out h2 x2
        have i1 : (k : Int) < (s.size : Int) := by omega
        have i2 : (k : Int) < (t.size : Int) := by omega
        clear x1 x2
        go_wp2
        go_quiet (fail)
        go_wp2
        go_roundw
        case rel => exact ⟨k + 1, _, by go_num, rfl, by omega⟩
        case measure => simp [intOf]; omega
      · have hkm' : k = m := by omega
        subst hkm'
        by_cases hend : k < s.size ∧ k < t.size
        · obtain ⟨h1, h2⟩ := hend
          have hne := com_ne a b (by rw [← HM.out, ← HSZ.out]; exact h1) (by rw [← HM.out, ← HTZ.out]; exact h2)
          rw [← HM.out] at hne
          obtain ⟨x, hx⟩ : ∃ x, a[k]? = some x := ⟨_, List.getElem?_eq_getElem (show k < a.length by rw [← HSZ.out]; exact h1)⟩
          obtain ⟨y, hy⟩ : ∃ y, b[k]? = some y := ⟨_, List.getElem?_eq_getElem (show k < b.length by rw [← HTZ.out]; exact h2)⟩
          have y1 := byte_at HS.out h1 hx
          have y2 := byte_at HT.out h2 hy
          have hxy : ((x.toNat : Int) == (y.toNat : Int)) = false := by
            have : x.toNat ≠ y.toNat := fun e => hne (by rw [hx, hy, UInt8.toNat_inj.1 e])
            simp; omega
          have i1 : (k : Int) < (s.size : Int) := by omega
          have i2 : (k : Int) < (t.size : Int) := by omega
          clear hx hy hne
          go_wp2
          go_quiet (fail)
          go_wp2
          go_ret
          exact ⟨rfl, Dr.trans ⟨nd, rfl⟩ ⟨_, rfl⟩⟩
        · first
          | (have i1 : decide (k < t.size) = false := decide_eq_false (by omega)
             have i2 : ¬ (k < t.size) := by omega)
          | (have i1 : decide (k < s.size) = false := decide_eq_false (by omega)
             have i2 : ¬ (k < s.size) := by omega)
          go_wp2
          go_quiet (fail)
          go_wp2
          go_ret
          exact ⟨rfl, Dr.trans ⟨nd, rfl⟩ ⟨_, rfl⟩⟩
end Go.Proofs.Ytkpfendodmfeoaa
