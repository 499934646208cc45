import Derived.Test.YtphfopbklebeoaaSr5
namespace Go.Proofs.Ytphfopbklebeoaa
open Go.RowKit
theorem Rd.lit (w : World) (cs : List Value) (e : TypeId) : Rd (w.alloc (.cells cs.toArray e)) (some ⟨w.heap.size, 0, none⟩) cs := by
  intro k u hk
  refine ⟨_, _, rfl, ?_⟩
  rw [cell_of_row _ _ _ cs.toArray e (0, 0) (heap_alloc_new w _)]
  simpa using hk
theorem RdB.lit (w : World) (l : Bs) (e : TypeId) : RdB (w.alloc (.cells (l.map byt).toArray e)) (some ⟨w.heap.size, 0, none⟩) l := Rd.lit w _ e
theorem RdB.lit' (w : World) (l : Bs) (e : TypeId) (n : Nat) (hn : n = w.heap.size) : RdB (w.alloc (.cells (l.map byt).toArray e)) (some ⟨n, 0, none⟩) l := by subst hn; exact RdB.lit w l e
/-- A feed of its own block. -/
def IsFeed (w : World) (g B : Nat) (l : Bs) : Prop :=
  ∃ A c, w.heap[g]? = some (.cells #[.slice A l.length c] 39 (0, 0)) ∧ Row w B 5 1 (.slice A l.length c) l.length (l.map byt) ∧ g < B ∧ B ≤ w.heap.size ∧ (∀ k, (Value.slice A l.length c).ownBlock = some k → k ≠ g)
theorem IsFeed.later {w w' : World} {g B : Nat} {l : Bs} (h : IsFeed w g B l) (hb : Below w.heap.size w w') : IsFeed w' g B l := by
  obtain ⟨A, c, h1, h2, h3, h4, h5⟩ := h
  exact ⟨A, c, (hb.block g (lt_of_heap h1)).trans h1, h2.below hb (Nat.le_refl _), h3, Nat.le_trans h4 hb.size, h5⟩
theorem IsFeed.new (w : World) : IsFeed (w.alloc (.cells #[.slice none 0 0] 39)) w.heap.size (w.heap.size + 1) [] :=
  ⟨none, 0, heap_alloc_new w _, Row.nil _ _ _ _, by omega, by simp, by simp [Value.ownBlock]⟩
theorem Put_feed (g B : Nat) (l : Bs) (x : UInt8) (w : World) (h : IsFeed w g B l) (hl : l.length + 1 ≤ 4294967296) (d1 : List Nat) (d2 : Bs) (hd : drain (l ++ [x]) = (d1, d2)) :
    Calls Try.prog 21 #[.pointer (some ⟨g, 0, none⟩), byt x] w fun e w' => ∃ r, e = .returned r ∧
      Row w' w.heap.size 21 1 r d1.length (d1.map i32) ∧ IsFeed w' g B d2 ∧ Below g w w' ∧ Fr (fun k => k = g ∨ B ≤ k) w w' := by
  obtain ⟨A, c, h1, h2, h3, h4, h5⟩ := h
  refine (Put_calls g 0 _ _ _ l x B w h1 rfl h2 (fun e => h5 _ e rfl) h4 hl).mono ?_
  rintro e w' ⟨r, v', rfl, p1, p2, p3, p4, p5⟩
  rw [hd] at p1 p3
  obtain ⟨A', c', rfl, _⟩ := p3.rd
  have hfr : Fr (fun k => k = g ∨ B ≤ k) w w' := p4.mono (fun i hi hk => by
    rcases hk with hk | hk
    · exact .inl hk
    · exact .inr (h2.lt _ hk).1)
  refine ⟨r, rfl, p1, ⟨A', c', by simpa using p2, p3, h3, Nat.le_trans h4 p4.size, fun k hk => (p5 k hk).2.1⟩, ?_, hfr⟩
  exact hfr.below (by have := lt_of_heap h1; omega) fun k _ hk => by omega
theorem Flush_feed (g B : Nat) (l : Bs) (w : World) (h : IsFeed w g B l) (hl : l.length ≤ 4294967296) :
    Calls Try.prog 23 #[.pointer (some ⟨g, 0, none⟩)] w fun e w' => ∃ r, e = .returned r ∧
      Row w' w.heap.size 21 1 r (runes l).length ((runes l).map i32) ∧ IsFeed w' g B [] ∧ Below g w w' ∧ Fr (fun k => k = g) w w' := by
  obtain ⟨A, c, h1, h2, h3, h4, h5⟩ := h
  obtain ⟨A', c', e, _, _, hrd, _⟩ := h2.rd
  cases e
  refine (Flush_calls g 0 _ _ A c l w h1 rfl hrd hl).mono ?_
  rintro e w' ⟨r, rfl, p1, p2, p3⟩
  exact ⟨r, rfl, p1, ⟨none, 0, by simpa using p2, Row.nil _ _ _ _, h3, Nat.le_trans h4 p3.size, by simp [Value.ownBlock]⟩, p3.below (by have := lt_of_heap h1; omega) (fun k _ hk => by omega), p3⟩
theorem Waits_feed (g B : Nat) (l : Bs) (w : World) (h : IsFeed w g B l) :
    Calls Try.prog 22 #[.pointer (some ⟨g, 0, none⟩)] w fun e w' => e = .returned (.bool (decide (0 < l.length))) ∧ w = w' := by
  obtain ⟨A, c, h1, h2, h3, h4, h5⟩ := h
  exact Waits_calls g 0 A l.length c w (row_cell h1 rfl)
theorem dr1 : drain ([] ++ [195]) = ([], [195]) := by decide +kernel
theorem dr2 : drain ([195] ++ [169]) = ([233], []) := by decide +kernel
theorem dr3 : drain ([] ++ [226]) = ([], [226]) := by decide +kernel
theorem ru1 : runes [195, 169, 255, 65] = [233, 65533, 65] := by decide +kernel
theorem ru2 : runes [226] = [65533] := by decide +kernel
theorem nx1 : nxt [226, 130, 172, 65] = (8364, 3) := by decide +kernel
theorem wh1 : whole [65] = true := by decide +kernel
theorem wh2 : whole [226, 130] = false := by decide +kernel
theorem cl1 : clean [255] = [239, 191, 189] := by decide +kernel
set_option maxHeartbeats 4000000 in
set_option maxRecDepth 100000 in
/-- law01.alive. -/
theorem alive_calls (w : World) : Calls Try.prog 10 #[] w fun e w' => e = .returned (.bool true) ∧ Below w.heap.size w w' := by
  go_enter Try.func10, Try.ntmps10
  go_wp2_with fail
  refine (Runes_calls _ 4 [195, 169, 255, 65] _ (RdB.lit w [195, 169, 255, 65] _) (by decide)).mono ?_
  rintro e w1 ⟨v1, rfl, hrow1, hb1⟩
  rw [ru1] at hrow1
  obtain ⟨A1, c1, rfl, _, _, hrd1, _⟩ := hrow1.rd
  have hB1 : Below w.heap.size w w1 := ((Below.refl _ w).alloc (Nat.le_refl _) _).trans (hb1.mono (by simp))
  go_wp2_with fail
  have hf0 := IsFeed.new w1
  refine (Put_feed _ _ [] 195 _ hf0 (by decide) _ _ dr1).mono ?_
  rintro e w2 ⟨r2, rfl, hrow2, hf2, hb2, hfr2⟩
  obtain ⟨A2, c2, rfl, _⟩ := hrow2.rd
  go_wp2_with fail
  refine (Put_feed _ _ [195] 169 _ hf2 (by decide) _ _ dr2).mono ?_
  rintro e w3 ⟨r3, rfl, hrow3, hf3, hb3, hfr3⟩
  obtain ⟨A3, c3, rfl, _⟩ := hrow3.rd
  go_wp2_with fail
  refine (Waits_feed _ _ [] _ hf3).mono ?_
  rintro e w3' ⟨rfl, rfl⟩
  go_wp2_with fail
  refine (Put_feed _ _ [] 226 _ hf3 (by decide) _ _ dr3).mono ?_
  rintro e w4 ⟨r4, rfl, hrow4, hf4, hb4, hfr4⟩
  obtain ⟨A4, c4, rfl, _⟩ := hrow4.rd
  go_wp2_with fail
  refine (Flush_feed _ _ [226] _ hf4 (by decide)).mono ?_
  rintro e w5 ⟨r5, rfl, hrow5, hf5, hb5, hfr5⟩
  obtain ⟨A5, c5, rfl, _⟩ := hrow5.rd
  go_wp2_with fail
  refine (Next_calls _ 4 [226, 130, 172, 65] _ (RdB.lit w5 [226, 130, 172, 65] _) (by decide) (by decide)).mono ?_
  rintro e w6 ⟨rfl, hb6⟩
  rw [nx1]
  have hbT : Below w1.heap.size w1 w6 := (((((((Below.refl _ w1).alloc (Nat.le_refl _) _).trans hb2).trans hb3).trans hb4).trans hb5).alloc (by have := hb2.size; have := hb3.size; have := hb4.size; have := hb5.size; simp at *; omega) _).trans (hb6.mono (by have := hb2.size; have := hb3.size; have := hb4.size; have := hb5.size; simp at *; omega))
  obtain ⟨b, off, rfl, hc⟩ := (hrd1.later hbT).at0 (by simp)
  have k0 := hc 0 _ rfl
  have k1 := hc 1 _ rfl
  have k2 := hc 2 _ rfl
  simp only [Nat.add_zero] at k0
  have hB6 : Below w.heap.size w w6 := hB1.trans (hbT.mono hB1.size)
  clear hc hbT hrd1 hf0 hf2 hf3 hf4 hf5 hfr2 hfr3 hfr4 hfr5 hrow1 hrow2 hrow3 hrow4 hrow5 hb1 hb2 hb3 hb4 hb5 hb6
  rw [ru2]
  go_wp2_with fail
  refine (Whole_calls _ 1 [65] _ (RdB.lit w6 [65] _) (by decide)).mono ?_
  rintro e w7 ⟨rfl, rfl⟩
  rw [wh1]
  go_wp2_with fail
  refine (Whole_calls _ 2 [226, 130] _ (RdB.lit' (w6.alloc (.cells #[.int .u8 65] 5)) [226, 130] _ (w6.heap.size + 1) (by simp)) (by decide)).mono ?_
  rintro e w8 ⟨rfl, rfl⟩
  rw [wh2]
  go_wp2_with fail
  refine (Clean_calls _ 1 [255] _ (RdB.lit' ((w6.alloc (.cells #[.int .u8 65] 5)).alloc (.cells #[.int .u8 226, .int .u8 130] 5)) [255] _ (w6.heap.size + 1 + 1) (by simp)) (by decide)).mono ?_
  rintro e w9 ⟨rfl, hb9⟩
  rw [cl1]
  go_wp2
  go_ret
  refine ⟨rfl, ?_⟩
  exact (((hB6.alloc hB6.size _).alloc (by have := hB6.size; simp; omega) _).alloc (by have := hB6.size; simp; omega) _).trans (hb9.mono (by have := hB6.size; simp; omega))
end Go.Proofs.Ytphfopbklebeoaa
