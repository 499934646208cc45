import Derived.Test.YtkpfendodmfeoaaTw4
namespace Go.Proofs.Ytkpfendodmfeoaa
set_option linter.unusedVariables false
set_option linter.unusedSimpArgs false
open Go.RowKit
/-- What stands for keys, and as a cell. -/
abbrev V := Int
abbrev encV : V → Value := fun n => .int .i64 n
abbrev zeroV : V := 0
def newN : Nd V := ⟨[], false, zeroV, 0, .nil⟩
theorem newN_good : Good zeroV newN := ⟨rfl, trivial, rfl, trivial, trivial, trivial, fun _ => rfl⟩
theorem kids_nil (w : World) : Kids w (.slice none 0 0) 0 [] := Row.nil _ _ _ _
/-- New. -/
theorem New_calls (w : World) :
    Calls Try.prog 11 #[] w fun e w' => ∃ tb fp, e = .returned (.pointer (some ⟨tb, 0, none⟩)) ∧ TrieAt encV w' tb newN fp ∧ (∀ b ∈ fp, w.heap.size ≤ b) ∧ Below w.heap.size w w' := by
  go_enter Try.func11, Try.ntmps11
  go_wp2
  go_ret
  refine ⟨w.heap.size + 1, [w.heap.size + 1, w.heap.size], rfl, ⟨w.heap.size, [w.heap.size], ?_, ⟨.slice none 0 0, [], [], ?_, kids_nil _, ⟨rfl, rfl⟩, by simp [rbl, Value.ownBlock]⟩, List.Perm.refl _, by simp⟩, by simp, ?_⟩
  · have := heap_alloc_new (w.alloc (.cells #[.string ⟨#[]⟩, .bool false, zeroI, .int .i64 0, .slice none 0 0] 57)) (.cells #[ptr w.heap.size] 59)
    rwa [World.size_alloc] at this
  · exact (Below.heap_alloc _ _ _ (by simp)).trans (heap_alloc_new w _)
  · exact ((Below.refl _ w).alloc (Nat.le_refl _) _).alloc (by simp) _
theorem set5 {w : World} {a : Nat} {T : TypeId} {v0 v1 v2 v3 v4 : Value} (u0 u1 u2 u3 u4 : Value) (h : w.heap[a]? = some (.cells #[v0, v1, v2, v3, v4] T (0, 0))) :
    (((((w.setCell ⟨a, 0, none⟩ u0).setCell ⟨a, 1, none⟩ u1).setCell ⟨a, 2, none⟩ u2).setCell ⟨a, 3, none⟩ u3).setCell ⟨a, 4, none⟩ u4).heap[a]? = some (.cells #[u0, u1, u2, u3, u4] T (0, 0)) := by
  have h0 := heap_setCell_same w a 0 _ T u0 h
  have h1 := heap_setCell_same _ a 1 _ T u1 h0
  have h2 := heap_setCell_same _ a 2 _ T u2 h1
  have h3 := heap_setCell_same _ a 3 _ T u3 h2
  have h4 := heap_setCell_same _ a 4 _ T u4 h3
  simpa using h4
theorem set5_fr {w : World} {a : Nat} (u0 u1 u2 u3 u4 : Value) : Fr (fun k => k = a) w (((((w.setCell ⟨a, 0, none⟩ u0).setCell ⟨a, 1, none⟩ u1).setCell ⟨a, 2, none⟩ u2).setCell ⟨a, 3, none⟩ u3).setCell ⟨a, 4, none⟩ u4) :=
  ((((Fr.setCell w ⟨a, 0, none⟩ u0).trans (Fr.setCell _ ⟨a, 1, none⟩ u1) (fun _ _ e => e)).trans (Fr.setCell _ ⟨a, 2, none⟩ u2) (fun _ _ e => e)).trans (Fr.setCell _ ⟨a, 3, none⟩ u3) (fun _ _ e => e)).trans (Fr.setCell _ ⟨a, 4, none⟩ u4) (fun _ _ e => e)
theorem set5_size {w : World} {a : Nat} (u0 u1 u2 u3 u4 : Value) : (((((w.setCell ⟨a, 0, none⟩ u0).setCell ⟨a, 1, none⟩ u1).setCell ⟨a, 2, none⟩ u2).setCell ⟨a, 3, none⟩ u3).setCell ⟨a, 4, none⟩ u4).heap.size = w.heap.size := by
  simp [World.setCell]
def splitN (y : Nd V) (c : Nat) : Nd V := ⟨y.edge.take c, false, zeroV, y.many, .cons (y.edge.drop c) y.is y.v y.many y.kids .nil⟩
set_option maxHeartbeats 800000 in
/-- split. -/
theorem split_calls (w : World) (a : Nat) (y : Nd V) (fa : List Nat) (hr : RepN encV w y a fa) (hnd : fa.Nodup) (c : Nat) (hc : c < y.edge.length) (hl : y.edge.length ≤ 4294967296) :
    Calls Try.prog 34 #[ptr a, .int .i64 c] w fun e w' => (∃ v, e = .returned v) ∧ ∃ fa', RepN encV w' (splitN y c) a fa' ∧ fa'.Nodup ∧ (∀ b ∈ fa', b ∈ fa ∨ w.heap.size ≤ b) ∧ Fr (fun b => b ∈ fa) w w' := by
  obtain ⟨sv, qs, fk, h1, h2, h3, h4⟩ := hr
  obtain ⟨k0, k1, k2, k3, k4⟩ := h1.cells
  obtain ⟨se, hse⟩ : ∃ se : ByteArray, se = ⟨y.edge.toArray⟩ := ⟨_, rfl⟩
  have hsz : se.size = y.edge.length := by rw [hse, str_of]
  rw [lit_of hse] at k0
  have ha := h1.lt
  have i1 : (c : Int) ≤ (se.size : Int) := by omega
  have H1 := Lib.hid h1
  have HSE := Lib.hid hse
  obtain ⟨A, cap, rfl, _⟩ := h2.rd
  clear h1 hse
  go_enter Try.func34, Try.ntmps34
  have hx1 := extract_eq y.edge c y.edge.length
  have hx2 := extract_eq y.edge 0 c
  rw [← HSE.out, List.take_length] at hx1
  rw [← HSE.out, List.drop_zero] at hx2
  go_wp2
  obtain ⟨W0, hW0⟩ : ∃ W0, W0 = w.alloc (.cells #[.string (se.extract c se.size), .bool y.is, .int .i64 y.v, n64 y.many, .slice A y.kids.len cap] 57) := ⟨_, rfl⟩
  have hfo : Try.prog.follows Departure.mixedOrders = true := by kernel_rfl
  have hfz : ∀ o, w.frozen? ⟨a, o, none⟩ = false := fun o => frozen_of_row w a o _ _ H1.out
  have f0 := hfz 0
  have f1 := hfz 1
  have f2 := hfz 2
  have f3 := hfz 3
  have f4 := hfz 4
  have ha' : a ≠ w.heap.size := by omega
  have hb' : ¬ a = w.heap.size + 1 := by omega
  clear hfz
  go_region
  go_end0
  refine ⟨⟨_, rfl⟩, a :: (w.heap.size + 1) :: (w.heap.size :: (rbl (.slice A y.kids.len cap) ++ fk)), ?_, ?_, ?_, ?_⟩
  · have hb := set5 (.string ⟨(y.edge.take c).toArray⟩) (.bool false) (.int .i64 0) (n64 y.many) (.slice (some ⟨w.heap.size + 1, 0, none⟩) 1 1) H1.out
    have hf := set5_fr (w := w) (a := a) (.string ⟨(y.edge.take c).toArray⟩) (.bool false) (.int .i64 0) (n64 y.many) (.slice (some ⟨w.heap.size + 1, 0, none⟩) 1 1)
    have hz := set5_size (w := w) (a := a) (.string ⟨(y.edge.take c).toArray⟩) (.bool false) (.int .i64 0) (n64 y.many) (.slice (some ⟨w.heap.size + 1, 0, none⟩) 1 1)
    generalize (((((w.setCell ⟨a, 0, none⟩ (.string ⟨(y.edge.take c).toArray⟩)).setCell ⟨a, 1, none⟩ (.bool false)).setCell ⟨a, 2, none⟩ (.int .i64 0)).setCell ⟨a, 3, none⟩ (n64 y.many)).setCell ⟨a, 4, none⟩ (.slice (some ⟨w.heap.size + 1, 0, none⟩) 1 1)) = w5 at hb hf hz ⊢
    have hold : ∀ b, b < w.heap.size → b ≠ a → ∀ o1 o2, ((w5.alloc o1).alloc o2).drew.heap[b]? = w.heap[b]? := fun b h1 h2 o1 o2 =>
      (Below.heap_alloc _ _ _ (by simp; omega)).trans ((Below.heap_alloc _ _ _ (by omega)).trans (hf.block b h1 h2))
    have hfk : ∀ b ∈ rbl (.slice A y.kids.len cap) ++ fk, b < w.heap.size ∧ b ≠ a := fun b hb => by
      have hn := h4.nodup_iff.1 hnd
      rw [List.nodup_cons] at hn
      refine ⟨?_, fun e => hn.1 (by rw [← e]; exact hb)⟩
      rcases List.mem_append.1 hb with h | h
      · exact (Row.lt h2 b (rbl_of h)).2
      · exact h3.lt b h
    refine ⟨.slice (some ⟨w.heap.size + 1, 0, none⟩) 1 1, [w.heap.size], w.heap.size :: (rbl (.slice A y.kids.len cap) ++ fk), ?_, ?_, ?_, List.Perm.refl _⟩
    · exact (Below.heap_alloc _ _ _ (by simp; omega)).trans ((Below.heap_alloc _ _ _ (by omega)).trans hb)
    · have := Row.new (w5.alloc (.cells #[.string ⟨(y.edge.drop c).toArray⟩, .bool y.is, .int .i64 y.v, .int .i64 y.many, .slice A y.kids.len cap] 57)) #[ptr w.heap.size] 0 54 1 1 (by omega) (by simp [maxLen]) (by simp)
      rw [World.size_alloc, hz] at this
      exact this.at_ fun _ _ => rfl
    · refine ⟨w.heap.size, [], .slice A y.kids.len cap, qs, fk, [], rfl, ?_, ?_, ?_, ⟨rfl, rfl⟩, by simp⟩
      · refine (Below.heap_alloc _ _ _ (by simp; omega)).trans ?_
        have := heap_alloc_new w5 (.cells #[.string ⟨(y.edge.drop c).toArray⟩, .bool y.is, .int .i64 y.v, .int .i64 y.many, .slice A y.kids.len cap] 57)
        rwa [hz] at this
      · exact Row.at_ h2 fun k hk => by
          have := hfk k (List.mem_append_left _ (rbl_mem hk))
          exact hold k this.1 this.2 _ _
      · exact h3.move fun b hb => by
          have := hfk b (List.mem_append_right _ hb)
          exact hold b this.1 this.2 _ _
  · have hn := h4.nodup_iff.1 hnd
    rw [List.nodup_cons] at hn
    have hlt : ∀ b ∈ rbl (.slice A y.kids.len cap) ++ fk, b < w.heap.size := fun b hb => by
      rcases List.mem_append.1 hb with h | h
      · exact (Row.lt h2 b (rbl_of h)).2
      · exact h3.lt b h
    refine List.nodup_cons.2 ⟨?_, List.nodup_cons.2 ⟨?_, List.nodup_cons.2 ⟨?_, hn.2⟩⟩⟩
    · intro hm
      rcases List.mem_cons.1 hm with e | hm
      · omega
      · rcases List.mem_cons.1 hm with e | hm
        · omega
        · exact hn.1 hm
    · intro hm
      rcases List.mem_cons.1 hm with e | hm
      · omega
      · have := hlt _ hm; omega
    · intro hm
      have := hlt _ hm; omega
  · intro b hb
    rcases List.mem_cons.1 hb with e | hb
    · exact .inl (h4.mem_iff.2 (by rw [e]; exact List.mem_cons_self ..))
    · rcases List.mem_cons.1 hb with e | hb
      · exact .inr (by omega)
      · rcases List.mem_cons.1 hb with e | hb
        · exact .inr (by omega)
        · exact .inl (h4.mem_iff.2 (List.mem_cons_of_mem _ hb))
  · have hf := set5_fr (w := w) (a := a) (.string ⟨(y.edge.take c).toArray⟩) (.bool false) (.int .i64 0) (n64 y.many) (.slice (some ⟨w.heap.size + 1, 0, none⟩) 1 1)
    exact ((((hf.mono (S' := fun b => b ∈ fa) fun i _ e => by rw [e]; exact h4.mem_iff.2 (List.mem_cons_self ..)).trans (Fr.alloc _ _) (fun _ _ e => e)).trans (Fr.alloc _ _) (fun _ _ e => e)).drew)
end Go.Proofs.Ytkpfendodmfeoaa
