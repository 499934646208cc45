import Derived.Test.YtkpfendodmfeoaaTx1
namespace Go.Proofs.Ytkpfendodmfeoaa
set_option linter.unusedVariables false
set_option linter.unusedSimpArgs false
open Go.RowKit
set_option maxHeartbeats 1600000 in
/-- The document's Under. -/
theorem rUnder_calls (w : World) (B : Nat) (v : Value) (l : Ents V) (hr : PR w B v l) (hN : l.length ≤ 1073741824) (hK : KeysLe 4294967296 l) (s : ByteArray) (k : Bs) (hs : s = ⟨k.toArray⟩) (hk4 : k.length ≤ 4294967296) :
    Calls Try.prog 27 #[v, .string s] w fun e w' => ∃ v', e = .returned v' ∧ PR w' w.heap.size v' (lunder l k) ∧ Below w.heap.size w w' := by
  obtain ⟨A, c, rfl, _⟩ := hr.rd
  have hblk : ∀ g, (Value.slice A l.length c).ownBlock = some g → g < w.heap.size := fun g hg => (Row.lt hr g hg).2
  have HR := Lib.hid hr
  have HS := Lib.hid hs
  clear hr hs
  go_enter Try.func27, Try.ntmps27
  go_wp2
  go_loopw [5, 6] (fun u5 u6 wr => ∃ (j : Nat) (m : Ents V), u6 = n64 j ∧ j ≤ l.length ∧ PR wr w.heap.size u5 m ∧ m = lunder (l.take j) k ∧ Below w.heap.size w wr) (fun _ u6 _ => (l.length - intOf u6).toNat)
  case atStart => exact ⟨0, [], rfl, Nat.zero_le _, PR.nil _ _, rfl, Below.refl _ _⟩
  case round =>
    obtain ⟨j, m, rfl, hj, hm, hml, hb⟩ := hrel
    have HML := Lib.hid hml
    clear hml
    have hRw : PR wr B (.slice A l.length c) l := Row.at_ HR.out fun g hg => hb.block g (hblk g hg)
    by_cases hlt : j < l.length
    · obtain ⟨q, hq⟩ : ∃ q, l[j]? = some q := ⟨_, List.getElem?_eq_getElem hlt⟩
      obtain ⟨g, off, rfl, c1, c2⟩ := hRw.at hq
      have htk : l.take (j + 1) = l.take j ++ [q] := by rw [List.take_add_one, hq]; rfl
      have hld : lunder (l.take (j + 1)) k = lunder (l.take j) k ++ (if k <+: q.1 then [q] else []) := by
        rw [htk, lunder_append]
        congr 1
        by_cases h : k <+: q.1 <;> simp [lunder, h]
      obtain ⟨sq, hsq⟩ : ∃ sq : ByteArray, sq = ⟨q.1.toArray⟩ := ⟨_, rfl⟩
      have hql : q.1.length ≤ 4294967296 := hK q (List.mem_of_getElem? hq)
      have hbg := begins_calls q.1 k sq s hsq HS.out hql hk4
      have hlit := lit_of hsq
      rw [hlit] at c1
      have b1 : (j : Int) < (l.length : Int) := by omega
      have HLD := Lib.hid hld
      have hmj : m.length ≤ l.length := by
        rw [HML.out]
        exact Nat.le_trans (List.length_filter_le _ _) (by rw [List.length_take]; omega)
      have HB := Lib.hid hb
      have HM := Lib.hid hm
      have HQ := Lib.hid hsq
      have hbs := hb.size
      clear hld hq hsq htk hb hRw
      by_cases hk : ¬ k <+: q.1
      · rw [decide_eq_false hk] at hbg
        have HBG := Lib.hid hbg
        clear hbg
        have HLD2 : lunder (l.take (j + 1)) k = lunder (l.take j) k := by rw [HLD.out, if_neg hk, List.append_nil]
        have HLD2 := Lib.hid HLD2
        clear hm
        go_wp2_with (go_at_call 38; refine (HBG.out _).mono ?_; rintro e w' ⟨rfl, rfl⟩)
        go_roundw
        case rel => exact ⟨j + 1, m, by go_num, by omega, HM.out, by rw [HLD2.out, HML.out], HB.out⟩
        case measure => simp [intOf]; omega
      · have hk := Decidable.not_not.1 hk
        rw [decide_eq_true hk] at hbg
        have HBG := Lib.hid hbg
        clear hbg
        have HLD2 : lunder (l.take (j + 1)) k = lunder (l.take j) k ++ [q] := by rw [HLD.out, if_pos hk]
        have HLD2 := Lib.hid HLD2
        have hlm : PR wr w.heap.size u5 m := hm
        clear hm
        go_wp2_with (first | (go_at_call 38; refine (HBG.out _).mono ?_; rintro e w' ⟨rfl, rfl⟩) | (at_builtin; refine wpList_append_row _ rfl _ _ 26 rfl w.heap.size 65 2 24 _ Try.underlying26 Try.info_pair rfl (by decide) _ _ _ rfl (Row.alloc HM.out _) (some ⟨wr.heap.size, 0, none⟩) 1 1 [.string sq, .int .i64 q.2] rfl rfl (by have := Rd.newRow wr #[.string sq, encV q.2] 65; exact this) (by intro u hu; simp at hu; rcases hu with rfl | rfl <;> rfl) (by omega) (by simp only [maxLen]; omega) (by simp; omega) ?_; intro A' c' w' hrow hg hob))
        rw [← hlit] at hrow
        obtain ⟨p1, p2⟩ := PR.more HM.out HB.out hrow hg
        go_roundw
        case rel => exact ⟨j + 1, m ++ [q], by go_num, by omega, p1, by rw [HLD2.out, HML.out], p2⟩
        case measure => simp [intOf]; omega
    · have b1 : ¬ (j : Int) < (l.length : Int) := by omega
      have hjl : j = l.length := by omega
      subst hjl
      have HB := Lib.hid hb
      have HM := Lib.hid hm
      clear hb hm
      go_wp2
      go_ret
      refine ⟨_, rfl, ?_, HB.out⟩
      have := HML.out
      rw [List.take_length] at this
      rw [← this]; exact HM.out
end Go.Proofs.Ytkpfendodmfeoaa
