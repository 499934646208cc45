import Derived.Test.YticaeflnpgbngaaDoorKz11
namespace Go.Proofs.YticaeflnpgbngaaDoor
set_option linter.unusedVariables false
set_option linter.unusedSimpArgs false
open Go.RowKit Go.Maps
/-! KeysAll. -/
theorem Di.toff {w : World} {db : Nat} {d : Dc} {fp : List Nat} (h : Di w db d fp) {k : Nat} {cs : Array Value} {T : TypeId} (hk : w.heap[k]? = some (.cells cs T (0, 0))) (h1 : T ≠ 29) (h2 : T ≠ 5) : k ∉ fp := by
  obtain ⟨vf, vs, h0, rfl⟩ := h
  intro hm
  rcases List.mem_cons.1 hm with e | e
  · rw [e, h0.box] at hk
    injection hk with hk; injection hk with _ hk
    exact h1 hk.symm
  · rcases List.mem_append.1 e with e | e
    · obtain ⟨c, hc⟩ := h0.rf.typ (rbK_of e)
      rw [hc] at hk
      injection hk with hk; injection hk with _ hk
      exact h2 hk.symm
    · obtain ⟨c, hc⟩ := h0.rs.typ (rbK_of e)
      rw [hc] at hk
      injection hk with hk; injection hk with _ hk
      exact h2 hk.symm
structure SB (w W : World) (db : Nat) (d : Dc) (fp : List Nat) (sb : Nat) (b : Bs) (Ar : Option Addr) (cr : Nat) : Prop where
  di : Di W db d fp
  lo : ∀ k ∈ fp, w.heap.size ≤ k
  be : Below w.heap.size w W
  sl : w.heap.size ≤ sb
  st : W.heap[sb]? = some (.cells #[.slice Ar b.length cr, n64 d.ag] 31 (0, 0))
  rd : RdB W Ar b
  le : b.length ≤ cr
  of : ∀ a, Ar = some a → b ≠ [] → a.block ∉ fp ∧ a.block ≠ sb
  rel : RelD d b
  ag : d.ag ≤ 1
theorem SB.later {w W W' : World} {db : Nat} {d : Dc} {fp : List Nat} {sb : Nat} {b : Bs} {Ar : Option Addr} {cr : Nat} (h : SB w W db d fp sb b Ar cr) (hb : Below W.heap.size W W') : SB w W' db d fp sb b Ar cr :=
  ⟨h.di.later hb, h.lo, h.be.trans (hb.mono h.be.size), h.sl, (hb.block sb (lt_of_heap h.st)).trans h.st, Rd.later h.rd hb, h.le, h.of, h.rel, h.ag⟩
/-- The document's state goes on, then the decoder. -/
theorem SB.step {w W W1 W2 W3 : World} {db : Nat} {d d' : Dc} {fp : List Nat} {sb : Nat} {b b' : Bs} {Ar A2 : Option Addr} {cr c2 : Nat} (h : SB w W db d fp sb b Ar cr) (hb : Below W.heap.size W W1)
    (hr : RdB W1 A2 b') (hc : b'.length ≤ c2) (hA : ∀ a, A2 = some a → b' ≠ [] → (Ar = some a ∧ b ≠ []) ∨ W.heap.size ≤ a.block) (age' : Nat) (hage : age' = d'.ag)
    (hW2 : W2 = ((W1.setCell ⟨sb, 0, none⟩ (.slice A2 b'.length c2)).setCell ⟨sb, 1, none⟩ (n64 age'))) (hm : Mv W2 db fp d' W3) (hrel : RelD d' b') (hag : d'.ag ≤ 1) : ∃ fp', SB w W3 db d' fp' sb b' A2 c2 := by
  have h1 := h.later hb
  have hsn := h.di.toff h.st (by decide) (by decide)
  have hF : Fr (fun k => k = sb) W1 W2 := by
    rw [hW2]
    exact (Fr.setCell W1 ⟨sb, 0, none⟩ _).trans (Fr.setCell _ ⟨sb, 1, none⟩ _) fun _ _ e => e
  have hst2 : W2.heap[sb]? = some (.cells #[.slice A2 b'.length c2, n64 age'] 31 (0, 0)) := by rw [hW2]; exact key_set h1.st _ _
  have hof : ∀ a, A2 = some a → b' ≠ [] → a.block ∉ fp ∧ a.block ≠ sb := fun a ha hne => by
    rcases hA a ha hne with ⟨e, e2⟩ | e
    · exact h.of a e e2
    · have := lt_of_heap h.st
      exact ⟨fun e2 => by have := h.di.lt _ e2; omega, by omega⟩
  have hr2 : RdB W2 A2 b' := Rd.fr hr hF fun a ha hne => (hof a ha (by simpa using hne)).2
  obtain ⟨fp', hd, hf, hmm⟩ := hm
  have hsz : W.heap.size ≤ W2.heap.size := Nat.le_trans hb.size hF.size
  refine ⟨fp', hd, fun k hk => ?_, ?_, h.sl, ?_, ?_, hc, fun a ha hne => ?_, hrel, hag⟩
  · rcases hmm k hk with e | e
    · exact h.lo k e
    · have := h.be.size; omega
  · refine ((((Fr.of_below h1.be).trans hF fun i _ e => ?_).trans hf fun i _ e => h.lo i e)).below (Nat.le_refl _) fun k _ e => e
    rw [e]; exact h.sl
  · rw [← hage]
    exact (hf.block sb (lt_of_heap hst2) hsn).trans hst2
  · exact Rd.fr hr2 hf fun a ha hne => (hof a ha (by simpa using hne)).1
  · obtain ⟨q1, q2⟩ := hof a ha hne
    refine ⟨fun e => ?_, q2⟩
    rcases hmm _ e with e2 | e2
    · exact q1 e2
    · exact absurd (Rd.lt hr2 ha (by simpa using hne)) (by omega)
set_option maxRecDepth 100000 in
set_option maxHeartbeats 1600000 in
theorem same4_calls (w : World) {B B' : Nat} {v v' : Value} {l : List KeyT} (h : RowK w B v l) (h' : RowR w B' v' l) (hl : l.length ≤ 1000000) : Calls Tryd.prog 14 #[v, v'] w fun e w' => e = .returned (.bool true) ∧ Below w.heap.size w w' := by
  obtain ⟨A, c, rfl, _, _, hr, _⟩ := h.rd
  obtain ⟨A', c', rfl, _, _, hr', _⟩ := h'.rd
  have HR := Lib.hid hr
  have HR' := Lib.hid hr'
  clear h h' hr hr'
  go_enter Tryd.func14, Tryd.ntmps14
  go_wp2
  go_loopw [13] (fun u13 wr => ∃ j : Nat, u13 = n64 j ∧ j ≤ l.length ∧ Hid (Below w.heap.size w wr)) (fun u13 _ => (l.length - intOf u13).toNat)
  case atStart => exact ⟨0, rfl, Nat.zero_le _, Lib.hid (Below.refl _ _)⟩
  case round =>
    obtain ⟨j, rfl, hj, HB⟩ := hrel
    by_cases hjl : j < l.length
    · obtain ⟨q, hq⟩ : ∃ q, l[j]? = some q := ⟨_, List.getElem?_eq_getElem hjl⟩
      obtain ⟨f1, f2⟩ := flatK_get l j q hq
      obtain ⟨g, off, rfl, c1⟩ := (HR.out.later HB.out) _ _ f1
      obtain ⟨_, _, e9, c2⟩ := (HR.out.later HB.out) _ _ f2
      cases e9
      obtain ⟨g', off', rfl, c3⟩ := (HR'.out.later HB.out) _ _ f1
      obtain ⟨_, _, e9, c4⟩ := (HR'.out.later HB.out) _ _ f2
      cases e9
      rw [← Nat.add_assoc] at c2 c4
      obtain ⟨sq, hsq⟩ : ∃ s : ByteArray, s = ⟨q.t.toArray⟩ := ⟨_, rfl⟩
      rw [lit_of hsq] at c2 c4
      obtain ⟨k, hk⟩ : ∃ k, k = q.k := ⟨_, rfl⟩
      rw [← hk] at c1 c3
      have hne := Tryd.neq_rkey sq (k : Int)
      have b1 : (j : Int) < (l.length : Int) := by omega
      clear hq f1 f2 hsq hk
      go_wp2
      go_quiet (fail)
      rename_i nq
      go_wp2
      go_roundw
      case rel => exact ⟨j + 1, by go_num, by omega, Lib.hid ⟨HB.out.os, HB.out.tape, HB.out.output, HB.out.size, HB.out.block⟩⟩
      case measure => simp [intOf]; omega
    · have b1 : ¬ (j : Int) < (l.length : Int) := by omega
      go_wp2
      go_ret
      exact ⟨rfl, HB.out⟩
end Go.Proofs.YticaeflnpgbngaaDoor
