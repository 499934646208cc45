import Derived.Test.YtkpfendodmfeoaaTz2
namespace Go.Proofs.Ytkpfendodmfeoaa
set_option linter.unusedVariables false
set_option linter.unusedSimpArgs false
open Go.RowKit
def opsDo (ops : List OpT) : Ents V := ops.foldl opDo []
theorem opsDo_snoc (ops : List OpT) (o : OpT) : opsDo (ops ++ [o]) = opDo (opsDo ops) o := by simp [opsDo]
theorem opDo_len (l : Ents V) (o : OpT) : (opDo l o).length ≤ l.length + 1 := by
  unfold opDo
  split
  · exact lput_le l _ _
  · split
    · exact Nat.le_trans (List.length_filter_le _ _) (by omega)
    · omega
theorem opDo_keys {L : Nat} {l : Ents V} {o : OpT} (h : KeysLe L l) (ho : o.key.length ≤ L) : KeysLe L (opDo l o) := by
  unfold opDo
  split
  · intro q hq
    rcases lput_mem hq with e | e
    · exact h q e
    · rw [e]; exact ho
  · split
    · exact fun q hq => h q (List.mem_filter.1 hq).1
    · exact h
theorem fold_len : (ops : List OpT) → (l : Ents V) → (ops.foldl opDo l).length ≤ l.length + ops.length
  | [], l => by simp
  | o :: ops, l => by
      have h1 := fold_len ops (opDo l o)
      have h2 := opDo_len l o
      simp only [List.foldl_cons, List.length_cons]; omega
theorem fold_keys {L : Nat} : (ops : List OpT) → (l : Ents V) → KeysLe L l → (∀ o ∈ ops, o.key.length ≤ L) → KeysLe L (ops.foldl opDo l)
  | [], l, h, _ => h
  | o :: ops, l, h, ho => fold_keys ops (opDo l o) (opDo_keys h (ho o (List.mem_cons_self ..))) fun x hx => ho x (List.mem_cons_of_mem _ hx)
theorem opsDo_len (ops : List OpT) : (opsDo ops).length ≤ ops.length := Nat.le_trans (fold_len ops []) (by simp)
theorem opsDo_keys {L : Nat} {ops : List OpT} (h : ∀ o ∈ ops, o.key.length ≤ L) : KeysLe L (opsDo ops) := fold_keys ops [] (fun q hq => by cases hq) h
theorem keySum_mem : {ops : List OpT} → {o : OpT} → o ∈ ops → o.key.length ≤ keySum ops
  | p :: ops, o, h => by
      rcases List.mem_cons.1 h with e | e
      · rw [e, keySum]; omega
      · have := keySum_mem e; rw [keySum]; omega
theorem few_of {ops : List OpT} (h : fewB ops = true) : ops.length ≤ 80 ∧ ∀ o ∈ ops, o.key.length ≤ 2000 := by
  unfold fewB at h
  have h := of_decide_eq_true h
  exact ⟨h.1, fun o ho => Nat.le_trans (keySum_mem ho) h.2⟩
theorem TV.nil {w : World} {N tb : Nat} {fp : List Nat} (h : Tr w tb [] fp) (h2 : ∀ b ∈ fp, N ≤ b) : TV N w tb (.slice none 0 0) [] := ⟨fp, h, h2, PR.nil _ _⟩
set_option maxHeartbeats 1600000 in
set_option maxRecDepth 100000 in
theorem begin_calls (w : World) (A : Option Addr) (c : Nat) (ops : List OpT) (hr : Rd w A (flatO ops)) (hA : ∀ a, A = some a → ops ≠ [] → a.block < w.heap.size) (hl : ops.length ≤ 80) (hk : ∀ o ∈ ops, o.key.length ≤ 2000) :
    Calls Try.prog 20 #[.slice A ops.length c] w fun e w' => ∃ tb v, e = .returned (.tuple #[.pointer (some ⟨tb, 0, none⟩), v]) ∧ TV w.heap.size w' tb v (opsDo ops) ∧ Below w.heap.size w w' := by
  have HK := Lib.hid hk
  have HR := Lib.hid hr
  have HA := Lib.hid hA
  clear hk hr hA
  go_enter Try.func20, Try.ntmps20
  go_wp2_with fail
  refine (TNew_calls _).mono ?_
  rintro e w1 ⟨tb0, f0, rfl, hT0, hf0, hb0⟩
  go_wp2
  go_loopw [4, 5, 6, 14] (fun u4 u5 u6 u14 wr => ∃ (j tb : Nat), u14 = n64 j ∧ j ≤ ops.length ∧ u4 = .pointer (some ⟨tb, 0, none⟩) ∧ u6 = .bool true ∧ TV w.heap.size wr tb u5 (opsDo (ops.take j)) ∧ Below w.heap.size w wr) (fun _ _ _ u14 _ => (ops.length - intOf u14).toNat)
  case atStart => exact ⟨0, tb0, rfl, Nat.zero_le _, rfl, rfl, TV.nil hT0 hf0, hb0⟩
  case round =>
    obtain ⟨j, tb, rfl, hj, rfl, rfl, ht, hb⟩ := hrel
    have HT := Lib.hid ht
    have HB := Lib.hid hb
    have hbs := hb.size
    clear ht hb hT0 hf0 hb0
    by_cases hlt : j < ops.length
    · obtain ⟨o, ho⟩ : ∃ o, ops[j]? = some o := ⟨_, List.getElem?_eq_getElem hlt⟩
      have hRw : Rd wr A (flatO ops) := HR.out.below HB.out fun a ha _ => HA.out a ha (by intro e; subst e; simp at hlt)
      obtain ⟨g, off, rfl, c0, c1, c2⟩ := RdO.at hRw ho
      obtain ⟨so, hso⟩ : ∃ s : ByteArray, s = ⟨o.key.toArray⟩ := ⟨_, rfl⟩
      rw [lit_of hso] at c1
      have hjl : (j : Int) < (ops.length : Int) := by omega
      have hk1 := HK.out o (List.mem_of_getElem? ho)
      have hlen : (opsDo (ops.take j)).length ≤ 80 := Nat.le_trans (opsDo_len _) (by rw [List.length_take]; omega)
      have hkeys : KeysLe 10000 (opsDo (ops.take j)) := opsDo_keys fun o ho => Nat.le_trans (HK.out o (List.mem_of_mem_take ho)) (by omega)
      have htk : opsDo (ops.take (j + 1)) = opDo (opsDo (ops.take j)) o := by rw [List.take_add_one, ho]; exact opsDo_snoc _ _
      have HTK := Lib.hid htk
      have hdo := fun (W : World) (h : Below wr.heap.size wr W) => does_calls W w.heap.size (Nat.le_trans hbs h.size) tb u5 _ (HT.out.move h) hkeys (by omega) o (by omega) so hso
      have HDO := Lib.hid hdo
      clear hdo htk hkeys hlen hk1 hso ho hRw
      go_wp2_with fail
      refine (HDO.out _ ((Below.refl _ wr).alloc (Nat.le_refl _) _)).mono ?_
      rintro e w2 ⟨tb2, v2, rfl, ht2, hb2⟩
      go_wp2
      go_roundw
      case rel => exact ⟨j + 1, tb2, by go_num, by omega, rfl, rfl, by rw [HTK.out]; exact ht2, (HB.out.alloc (by omega) _).trans hb2⟩
      case measure => simp [intOf]; omega
    · obtain rfl : j = ops.length := by omega
      go_wp2
      go_ret2
      refine ⟨tb, u5, rfl, ?_, HB.out⟩
      have := HT.out
      rwa [List.take_length] at this
end Go.Proofs.Ytkpfendodmfeoaa
