import Derived.Test.YtkpfendodmfeoaaTz3
namespace Go.Proofs.Ytkpfendodmfeoaa
set_option linter.unusedVariables false
set_option linter.unusedSimpArgs false
open Go.RowKit
theorem tv_same (w : World) {N tb : Nat} {v : Value} {l : Ents V} (h : TV N w tb v l) (hK : KeysLe 10000 l) (hN : l.length ≤ 10000) (s : ByteArray) (p : Bs) (hs : s = ⟨p.toArray⟩) (hp : p.length ≤ 10000) :
    Calls Try.prog 14 #[.pointer (some ⟨tb, 0, none⟩), v, .string s] w fun e w' => e = .returned (.bool true) ∧ Below w.heap.size w w' := by
  obtain ⟨fp, h1, h2, h3⟩ := h
  exact same_calls w tb l fp h1 N v h3 10000 (by omega) hK (by omega) s p hs (by omega)
theorem tv_len (w : World) {N tb : Nat} {v : Value} {l : Ents V} (h : TV N w tb v l) : Calls Try.prog 18 #[.pointer (some ⟨tb, 0, none⟩)] w fun e w' => e = .returned (n64 l.length) ∧ w = w' := by
  obtain ⟨fp, h1, h2, h3⟩ := h
  exact TLen_calls w tb l fp h1
theorem tv_nodes (w : World) {N tb : Nat} {v : Value} {l : Ents V} (h : TV N w tb v l) (hN : l.length ≤ 10000) :
    Calls Try.prog 15 #[.pointer (some ⟨tb, 0, none⟩)] w fun e w' => ∃ n, e = .returned (n64 n) ∧ NodesOf l n ∧ n ≤ 2 * l.length + 1 ∧ Below w.heap.size w w' := by
  obtain ⟨fp, h1, h2, h3⟩ := h
  exact (TNodes_calls w tb l fp h1 (by omega)).mono fun e w' ⟨n, a, b, c, d⟩ => ⟨n, a, b, c, d.below (Nat.le_refl _) fun _ _ h => h.elim⟩
theorem tv_rnodes (w : World) {N tb : Nat} {v : Value} {l : Ents V} (h : TV N w tb v l) (hK : KeysLe 10000 l) (hN : l.length ≤ 4000) :
    Calls Try.prog 19 #[v] w fun e w' => ∃ n, NodesOf l n ∧ n ≤ 40000000 ∧ e = .returned (n64 n) ∧ Below w.heap.size w w' := by
  obtain ⟨fp, h1, h2, h3⟩ := h
  exact rNodes_calls w N v l h3 hN fun q hq => by have := hK q hq; omega
theorem tv_sl {w : World} {N tb : Nat} {v : Value} {l : Ents V} (h : TV N w tb v l) : ∃ A c, v = .slice A l.length c := by
  obtain ⟨fp, h1, h2, h3⟩ := h
  obtain ⟨A, c, rfl, _⟩ := h3.rd
  exact ⟨A, c, rfl⟩
set_option maxHeartbeats 1600000 in
set_option maxRecDepth 100000 in
theorem TrieAll_walk (w : World) (A : Option Addr) (c : Nat) (ops : List OpT) (hr : Rd w A (flatO ops)) (hA : ∀ a, A = some a → ops ≠ [] → a.block < w.heap.size) (hl : ops.length ≤ 140737488351232) (hk : ∀ o ∈ ops, o.key.length ≤ 140737488351232) :
    Calls Try.prog 4 #[.slice A ops.length c] w fun e w' => e = .returned (.bool true) ∧ Below w.heap.size w w' := by
  have qf := few_calls w A c ops hr hA hl hk
  have QF := Lib.hid qf
  have HR := Lib.hid hr
  have HA := Lib.hid hA
  clear qf hr hA hk
  go_enter Try.func4, Try.ntmps4
  go_wp2_with fail
  refine QF.out.mono ?_
  rintro e w1 ⟨rfl, hb1⟩
  cases hfw : fewB ops with
  | false =>
    clear hfw
    go_wp2_with fail
    refine (alive_calls _).mono ?_
    rintro e w2 ⟨rfl, hb2⟩
    go_wp2
    go_ret
    exact ⟨rfl, hb1.trans (hb2.mono hb1.size)⟩
  | true =>
    obtain ⟨h80, hk⟩ := few_of hfw
    have HK := Lib.hid hk
    clear hfw hk
    go_wp2_with fail
    refine (TNew_calls _).mono ?_
    rintro e w2 ⟨tb0, f0, rfl, hT0, hf0, hb2⟩
    have hbw := hb1.trans (hb2.mono hb1.size)
    go_wp2
    go_loopw [3, 4, 19] (fun u3 u4 u19 wr => ∃ (j tb : Nat), u19 = n64 j ∧ j ≤ ops.length ∧ u3 = .pointer (some ⟨tb, 0, none⟩) ∧ TV w.heap.size wr tb u4 (opsDo (ops.take j)) ∧ Below w.heap.size w wr) (fun _ _ u19 _ => (ops.length - intOf u19).toNat)
    case atStart => exact ⟨0, tb0, rfl, Nat.zero_le _, rfl, TV.nil hT0 (fun b hb => Nat.le_trans hb1.size (hf0 b hb)), hbw⟩
    case round =>
      obtain ⟨j, tb, rfl, hj, rfl, ht, hb⟩ := hrel
      have HT := Lib.hid ht
      have HB := Lib.hid hb
      have hbs := hb.size
      clear ht hb hT0 hf0 hb1 hb2 hbw
      by_cases hlt : j < ops.length
      · obtain ⟨o, ho⟩ : ∃ o, ops[j]? = some o := ⟨_, List.getElem?_eq_getElem hlt⟩
        have hRw : Rd wr A (flatO ops) := HR.out.below HB.out fun a ha _ => HA.out a ha (by intro e; subst e; simp at hlt)
        obtain ⟨g, off, rfl, c0, c1, c2⟩ := RdO.at hRw ho
        obtain ⟨so, hso⟩ : ∃ s : ByteArray, s = ⟨o.key.toArray⟩ := ⟨_, rfl⟩
        rw [lit_of hso] at c1
        have hjl : (j : Int) < (ops.length : Int) := by omega
        have hk1 := HK.out o (List.mem_of_getElem? ho)
        have hlen : (opsDo (ops.take j)).length ≤ 80 := Nat.le_trans (opsDo_len _) (by rw [List.length_take]; omega)
        have hkeys : KeysLe 10000 (opsDo (ops.take j)) := opsDo_keys fun o ho => Nat.le_trans (HK.out o (List.mem_of_mem_take ho)) (by omega)
        have htk : opsDo (ops.take (j + 1)) = opDo (opsDo (ops.take j)) o := by rw [List.take_add_one, ho]; exact opsDo_snoc _ _
        have hlen2 : (opsDo (ops.take (j + 1))).length ≤ 80 := Nat.le_trans (opsDo_len _) (by rw [List.length_take]; omega)
        have hkeys2 : KeysLe 10000 (opsDo (ops.take (j + 1))) := opsDo_keys fun o ho => Nat.le_trans (HK.out o (List.mem_of_mem_take ho)) (by omega)
        have hdo := fun (W : World) (h : Below wr.heap.size wr W) => does_calls W w.heap.size (Nat.le_trans hbs h.size) tb u4 _ (HT.out.move h) hkeys (by omega) o (by omega) so hso
        rw [← htk] at hdo
        have HDO := Lib.hid hdo
        obtain ⟨L, hL⟩ : ∃ L, L = opsDo (ops.take (j + 1)) := ⟨_, rfl⟩
        rw [← hL] at hlen2 hkeys2
        have HLL := Lib.hid hL
        have HK2 := Lib.hid hkeys2
        clear hdo htk hkeys hlen hk1 hso ho hRw hL hkeys2
        go_wp2_with fail
        refine (HDO.out _ ((Below.refl _ wr).alloc (Nat.le_refl _) _)).mono ?_
        rintro e w2 ⟨tb2, v2, rfl, ht2, hb2⟩
        rw [← HLL.out] at ht2
        obtain ⟨A2, c3, rfl⟩ := tv_sl ht2
        have B2 : Below w.heap.size w w2 := (HB.out.alloc (by omega) _).trans hb2
        have HT2 := Lib.hid ht2
        clear ht2 hb2
        go_wp2_with fail
        refine (tv_same w2 HT2.out HK2.out (by omega) ⟨#[]⟩ [] rfl (by simp)).mono ?_
        rintro e w3 ⟨rfl, hb3⟩
        have ht3 := HT2.out.move hb3
        have B3 := B2.trans (hb3.mono B2.size)
        have HT3 := Lib.hid ht3
        clear ht3 hb3
        go_wp2_with fail
        refine (tv_len w3 HT3.out).mono ?_
        rintro e w' ⟨rfl, rfl⟩
        go_wp2_with fail
        refine (tv_nodes w3 HT3.out (by omega)).mono ?_
        rintro e w4 ⟨n1, rfl, hn1, hn2, hb4⟩
        have ht4 := HT3.out.move hb4
        have B4 := B3.trans (hb4.mono B3.size)
        have HT4 := Lib.hid ht4
        clear ht4 hb4
        go_wp2_with fail
        refine (tv_rnodes w4 HT4.out HK2.out (by omega)).mono ?_
        rintro e w5 ⟨n2, hn3, hn4, rfl, hb5⟩
        obtain rfl := hn1.one hn3
        have ht5 := HT4.out.move hb5
        have B5 := B4.trans (hb5.mono B4.size)
        have HT5 := Lib.hid ht5
        clear ht5 hb5 hn1 hn3
        go_wp2
        go_roundw
        case rel => exact ⟨j + 1, tb2, by go_num, by omega, rfl, by rw [← HLL.out]; exact HT5.out, B5⟩
        case measure => simp [intOf]; omega
      · obtain rfl : j = ops.length := by omega
        go_wp2_with fail
        refine (alive_calls _).mono ?_
        rintro e w3 ⟨rfl, hb3⟩
        go_wp2
        go_ret
        exact ⟨rfl, HB.out.trans (hb3.mono hbs)⟩
end Go.Proofs.Ytkpfendodmfeoaa
