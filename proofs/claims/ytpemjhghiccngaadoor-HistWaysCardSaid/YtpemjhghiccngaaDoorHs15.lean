import Derived.Test.YtpemjhghiccngaaDoorHs14
namespace Go.Proofs.YtpemjhghiccngaaDoor
set_option linter.unusedVariables false
set_option linter.unusedSimpArgs false
open Go.RowKit Go.Shelf
/-! The document's Of. -/
def ofL (l : List EntT) : List EntT := l.foldl addL []
theorem ofL_step {l : List EntT} {k : Nat} {x : EntT} (hx : l[k]? = some x) : ofL (l.take (k + 1)) = addL (ofL (l.take k)) x := by
  unfold ofL
  rw [List.take_add_one, hx, List.foldl_append]; rfl
theorem foldA_len : (l : List EntT) → (a : List EntT) → (l.foldl addL a).length ≤ a.length + l.length
  | [], a => Nat.le_refl _
  | x :: l, a => by
      rw [List.foldl_cons]
      have h1 := foldA_len l (addL a x)
      have h2 := addL_len a x
      rw [List.length_cons]; omega
theorem ofL_len (l : List EntT) : (ofL l).length ≤ l.length := by
  have := foldA_len l []
  unfold ofL; simpa using this
def SmallE (l : List EntT) : Prop := ∀ e ∈ l, e.d.length ≤ 1000000 ∧ e.c.length ≤ 1000000
set_option maxRecDepth 100000 in
set_option maxHeartbeats 1600000 in
theorem rOf15_calls (w : World) (hU : U8 w) (A : Option Addr) (c : Nat) (l : List EntT) (hr : Rd w A (flatE l)) (hl : l.length ≤ 100000) (hs : SmallE l) :
    Calls Tryd.prog 26 #[.slice A l.length c] w fun x w' => ∃ A1 c1, x = .returned (.slice A1 (ofL l).length c1) ∧ RowR w' w.heap.size (.slice A1 (ofL l).length c1) (ofL l) ∧ Below w.heap.size w w' := by
  have HA := Lib.hid hr
  have HU := Lib.hid hU
  have HSM := Lib.hid hs
  clear hr hU hs
  go_enter Tryd.func26, Tryd.ntmps26
  go_wp2
  go_loopw [3, 4] (fun u3 u4 wr => ∃ (k m : Nat) (A1 : Option Addr) (c1 : Nat), u4 = n64 k ∧ k ≤ l.length ∧ m ≤ k ∧ Hid (m = (ofL (l.take k)).length) ∧ u3 = .slice A1 m c1 ∧ Hid (Row wr w.heap.size 28 3 (.slice A1 m c1) m (flatE (ofL (l.take k)))) ∧ Hid (Below w.heap.size w wr)) (fun _ u4 _ => (l.length - intOf u4).toNat)
  case atStart => exact ⟨0, 0, none, 0, rfl, Nat.zero_le _, Nat.le_refl _, Lib.hid rfl, rfl, Lib.hid (by simpa [flatE, ofL] using Row.nil _ _ _ _), Lib.hid (Below.refl _ _)⟩
  case round =>
    obtain ⟨k, m, A1, c1, rfl, hk, hm, HM, rfl, HR, HW⟩ := hrel
    by_cases hlt : k < l.length
    · obtain ⟨x, hx⟩ : ∃ x, l[k]? = some x := ⟨_, List.getElem?_eq_getElem hlt⟩
      obtain ⟨g, off, rfl, v0, v1, v2⟩ := RdE.at (HA.out.later HW.out) hx
      have hst := ofL_step hx
      have hsm := HSM.out x (List.mem_of_getElem? hx)
      obtain ⟨L, hL⟩ : ∃ L, L = ofL (l.take k) := ⟨_, rfl⟩
      rw [← hL] at HM HR hst
      have hmm := HM.out
      have q := rAdd_calls wr (HU.out.later HW.out) w.heap.size A1 c1 L (by have h := HR.out; rw [hmm] at h; exact h) HW.out.size (by omega) x hsm.1 hsm.2
      rw [← hmm] at q
      unfold entV at q
      have Q := Lib.hid q
      have b1 : (k : Int) < (l.length : Int) := by omega
      have hal := addL_len L x
      have HST := Lib.hid hst
      clear hx hst hsm hL q hmm
      go_wp2_with fail
      refine Q.out.mono ?_
      rintro y w2 ⟨A2, c2, v2', rfl, hr2, _, b2⟩
      have HR2 := Lib.hid (show Row w2 w.heap.size 28 3 (.slice A2 (addL L x).length c2) (addL L x).length (flatE (addL L x)) from hr2)
      have HB2 := Lib.hid (HW.out.trans (b2.mono HW.out.size))
      obtain ⟨m2, hm2⟩ : ∃ m2, m2 = (addL L x).length := ⟨_, rfl⟩
      have hal2 : m2 ≤ m + 1 := by have := HM.out; omega
      rw [← hm2]
      rw [show (addL L x).length = m2 from hm2.symm] at HR2
      have HM2 := Lib.hid hm2
      clear hr2 b2 hm2 hal v0 v1 v2
      go_wp2
      go_roundw
      case rel => exact ⟨k + 1, m2, A2, c2, by go_num, by omega, by omega, Lib.hid (by rw [HST.out]; exact HM2.out), rfl, Lib.hid (by rw [HST.out]; exact HR2.out), HB2⟩
      case measure => simp [intOf]; omega
    · obtain rfl : k = l.length := by omega
      go_wp2
      go_ret
      have hrow := HR.out
      have hmm := HM.out
      rw [List.take_length] at hrow hmm
      subst hmm
      exact ⟨_, _, rfl, hrow, HW.out⟩
end Go.Proofs.YtpemjhghiccngaaDoor
