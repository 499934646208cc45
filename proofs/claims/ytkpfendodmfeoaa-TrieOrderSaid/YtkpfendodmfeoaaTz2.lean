import Derived.Test.YtkpfendodmfeoaaTz1
import Derived.Deep.RegionHeld3
namespace Go.Proofs.Ytkpfendodmfeoaa
set_option linter.unusedVariables false
set_option linter.unusedSimpArgs false
open Go.RowKit
def opDo (l : Ents V) (o : OpT) : Ents V := if o.k = 0 then lput l o.key o.v else if o.k = 1 then ldrop l o.key else l
/-- A trie and a row that hold the same, in blocks from N on. -/
def TV (N : Nat) (w : World) (tb : Nat) (v : Value) (l : Ents V) : Prop := ∃ fp, Tr w tb l fp ∧ (∀ b ∈ fp, N ≤ b) ∧ PR w N v l
theorem TV.move {N : Nat} {w w' : World} {tb : Nat} {v : Value} {l : Ents V} (h : TV N w tb v l) (hb : Below w.heap.size w w') : TV N w' tb v l := by
  obtain ⟨fp, h1, h2, h3⟩ := h
  exact ⟨fp, h1.move fun b hm => hb.block b (h1.lt b hm), h2, Row.at_ h3 fun g hg => hb.block g (Row.lt h3 g hg).2⟩
theorem PR.later {N : Nat} {w w' : World} {v : Value} {l : Ents V} (h : PR w N v l) (hb : Below w.heap.size w w') : PR w' N v l := Row.at_ h fun g hg => hb.block g (Row.lt h g hg).2
theorem Tr.later {w w' : World} {tb : Nat} {l : Ents V} {fp : List Nat} (h : Tr w tb l fp) (hb : Below w.heap.size w w') : Tr w' tb l fp := h.move fun b hm => hb.block b (h.lt b hm)
theorem PR.put {N : Nat} {w w' : World} {tb : Nat} {v : Value} {l m : Ents V} {fp : List Nat} (h : PR w N v l) (ht : Tr w tb m fp) (hf : Fr (fun b => b ∈ fp) w w') : PR w' N v l := Row.at_ h fun g hg => hf.block g (Row.lt h g hg).2 (PR.not_in ht h g hg)
theorem post_tv {N : Nat} {w w' : World} {tb : Nat} {l : Ents V} {fp : List Nat} (h : TrPost w tb l fp w') (hN : N ≤ w.heap.size) (hf : ∀ b ∈ fp, N ≤ b) : ∃ fp', Tr w' tb l fp' ∧ (∀ b ∈ fp', N ≤ b) ∧ Below N w w' ∧ Fr (fun b => b ∈ fp) w w' ∧ ∀ b ∈ fp', b ∈ fp ∨ w.heap.size ≤ b := by
  obtain ⟨fp', h1, h2, h3⟩ := h
  exact ⟨fp', h1, fun b hb => by rcases h2 b hb with e | e; exact hf b e; omega, h3.below hN fun k _ hk => hf k hk, h3, h2⟩
theorem PR.mono {w : World} {B B' : Nat} {v : Value} {l : Ents V} (h : PR w B v l) (hB : B' ≤ B) : PR w B' v l := Row.mono h hB
def kNone : Bs := [110, 111, 110, 101, 32, 111, 102, 32, 116, 104, 101, 115, 101]
set_option maxHeartbeats 3200000 in
set_option maxRecDepth 100000 in
theorem does_calls (w : World) (N : Nat) (hN : N ≤ w.heap.size) (tb : Nat) (v : Value) (l : Ents V) (ht : TV N w tb v l) (hK : KeysLe 10000 l) (hl : l.length ≤ 10000) (o : OpT) (ho : o.key.length ≤ 10000) (s : ByteArray) (hs : s = ⟨o.key.toArray⟩) :
    Calls Try.prog 17 #[.pointer (some ⟨tb, 0, none⟩), v, .agg #[.int .i64 o.k, .string s, .int .i64 o.v]] w fun e w' =>
      ∃ tb' v', e = .returned (.tuple #[.pointer (some ⟨tb', 0, none⟩), v', .bool true]) ∧ TV N w' tb' v' (opDo l o) ∧ Below N w w' := by
  obtain ⟨fp, t1, t2, t3⟩ := ht
  obtain ⟨A, c, rfl, _⟩ := t3.rd
  obtain ⟨k, key, x⟩ := o
  dsimp only at ho hs ⊢
  obtain ⟨W0, hW0⟩ : ∃ W0, W0 = w.alloc (.cells #[.int .i64 k, .string s, .int .i64 x] 35) := ⟨_, rfl⟩
  have hB0 : Below w.heap.size w W0 := by rw [hW0]; exact (Below.refl _ w).alloc (Nat.le_refl _) _
  have hb0 : W0.heap[w.heap.size]? = some (.cells #[.int .i64 k, .string s, .int .i64 x] 35 (0, 0)) := by rw [hW0]; exact heap_alloc_new w _
  have T0 := t1.later hB0
  have P0 := t3.later hB0
  have hsz0 : W0.heap.size = w.heap.size + 1 := by rw [hW0]; simp
  have hri := t1.rise
  obtain ⟨had, hhad⟩ : ∃ b, b = (lget l key).isSome := ⟨_, rfl⟩
  have q1 := rGet_calls W0 N _ l P0 (by omega) s key hs
  rw [← hhad] at q1
  have q2 := fun (W : World) (h : Below W0.heap.size W0 W) => rPut_calls W N _ l (P0.later h) (by omega) hri s key hs x
  have q3 := fun (W : World) (h : Below W0.heap.size W0 W) => rDrop_calls W N _ l (P0.later h) (by omega) s key hs
  have q4 := fun (W : World) (h : Below W0.heap.size W0 W) => TPut_calls W tb l fp (T0.later h) 10000 (by omega) hK (by omega) s key hs (by omega) x
  have q5 := fun (W : World) (h : Below W0.heap.size W0 W) => TDrop_calls W tb l fp (T0.later h) 10000 (by omega) hK (by omega) s key hs (by omega)
  rw [← hhad] at q4 q5
  have q6 := TCopy_calls W0 tb l fp T0 10000 (by omega) hK (by omega)
  have q7 := fun (W : World) (h : Below W0.heap.size W0 W) => TPut_calls W tb l fp (T0.later h) 10000 (by omega) hK (by omega) ⟨#[110, 111, 110, 101, 32, 111, 102, 32, 116, 104, 101, 115, 101]⟩ kNone rfl (show 13 ≤ 4294967296 by omega) 1
  have q8 := fun (W : World) (fp' : List Nat) (h : Tr W tb (lput l kNone 1) fp') => TDrop_calls W tb (lput l kNone 1) fp' h 10000 (by omega) (fun q hq => by
    rcases lput_mem hq with e | e
    · exact hK q e
    · rw [e]; show 13 ≤ 10000; omega) (by have := lput_le l kNone 1; omega) s key hs (by omega)
  have Q1 := Lib.hid q1
  have Q2 := Lib.hid q2
  have Q3 := Lib.hid q3
  have Q4 := Lib.hid q4
  have Q5 := Lib.hid q5
  have Q6 := Lib.hid q6
  have Q7 := Lib.hid q7
  have Q8 := Lib.hid q8
  have HB0 := Lib.hid hB0
  have HTT := Lib.hid T0
  have HPP := Lib.hid P0
  have HB := Lib.hid hb0
  have HW0 := Lib.hid hW0
  have HT2 := Lib.hid t2
  clear q1 q2 q3 q4 q5 q6 q7 q8 hs hK hB0 T0 P0 hb0 t1 t3 hW0 t2 hri hhad
  have cells : ∀ W : World, W.heap[w.heap.size]? = some (.cells #[.int .i64 k, .string s, .int .i64 x] 35 (0, 0)) → W.cell? ⟨w.heap.size, 0, none⟩ = some (.int .i64 k) ∧ W.cell? ⟨w.heap.size, 1, none⟩ = some (.string s) ∧ W.cell? ⟨w.heap.size, 2, none⟩ = some (.int .i64 x) := fun W h => by
    refine ⟨?_, ?_, ?_⟩ <;> (rw [cell_of_row W _ _ _ _ (0, 0) h]; rfl)
  obtain ⟨c0, c1, c2⟩ := cells W0 HB.out
  have HC := Lib.hid cells
  clear cells
  have hnb : w.heap.size ∉ fp := HTT.out.not_in HB.out (by decide) (by decide) (by decide)
  go_enter Try.func17, Try.ntmps17
  go_wp2_with fail
  rw [← HW0.out]
  refine Q1.out.mono ?_
  rintro e w' ⟨rfl, rfl⟩
  by_cases h0 : k = 0
  · subst h0
    go_wp2_with fail
    go_region_held3 (fun w' => w'.cell? ⟨w.heap.size, 1, none⟩ = some (.string s) ∧ w'.cell? ⟨w.heap.size, 2, none⟩ = some (.int .i64 x)) (first | exact ⟨d1, d2⟩ | exact ⟨c1, c2⟩ | exact ⟨e1, e2⟩) (first
      | (go_at_call 13; refine (Q2.out W0.drew ((Below.refl _ _).drew)).mono ?_; rintro e w1 ⟨v1, rfl, hr1, hb1⟩; have D1 : Below W0.heap.size W0 w1 := ((Below.refl _ W0).drew).trans hb1; obtain ⟨_, e1, e2⟩ := HC.out w1 ((D1.block _ (by omega)).trans HB.out))
      | (go_at_call 12; refine (Q4.out w1 D1).mono ?_; rintro e w2 ⟨rfl, hp2⟩; obtain ⟨fp2, T2, N2, B2, F2, _⟩ := post_tv hp2 (Nat.le_trans hN (by have := D1.size; omega)) HT2.out; obtain ⟨_, d1, d2⟩ := HC.out w2 ((F2.block _ (by have := D1.size; omega) hnb).trans ((D1.block _ (by omega)).trans HB.out))))
    have hfin : opDo l ⟨0, key, x⟩ = lput l key x := by simp [opDo]
    have HF := Lib.hid hfin
    clear hfin c0 c1 c2 e1 e2 d1 d2
    have P2 : PR w2 N v1 (lput l key x) := (hr1.mono (Nat.le_trans hN (by have : W0.drew.heap.size = W0.heap.size := rfl; omega))).put (HTT.out.later D1) F2
    have B3 : Below N w w2 := (HB0.out.mono hN).trans ((D1.mono (by omega)).trans B2)
    cases had
    all_goals
      go_wp2
      go_ret3
      exact ⟨tb, v1, rfl, ⟨fp2, by rw [HF.out]; exact T2, N2, by rw [HF.out]; exact P2⟩, B3⟩
  by_cases h1 : k = 1
  · subst h1
    go_wp2_with fail
    go_region_held3 (fun w' => w'.cell? ⟨w.heap.size, 1, none⟩ = some (.string s)) (first | exact d1 | exact c1 | exact e1) (first
      | (go_at_call 29; refine (Q3.out W0.drew ((Below.refl _ _).drew)).mono ?_; rintro e w1 ⟨v1, rfl, hr1, hb1⟩; have D1 : Below W0.heap.size W0 w1 := ((Below.refl _ W0).drew).trans hb1; obtain ⟨_, e1, e2⟩ := HC.out w1 ((D1.block _ (by omega)).trans HB.out))
      | (go_at_call 25; refine (Q5.out w1 D1).mono ?_; rintro e w2 ⟨rfl, hp2⟩; obtain ⟨fp2, T2, N2, B2, F2, _⟩ := post_tv hp2 (Nat.le_trans hN (by have := D1.size; omega)) HT2.out; obtain ⟨_, d1, d2⟩ := HC.out w2 ((F2.block _ (by have := D1.size; omega) hnb).trans ((D1.block _ (by omega)).trans HB.out))))
    have hfin : opDo l ⟨1, key, x⟩ = ldrop l key := by simp [opDo]
    have HF := Lib.hid hfin
    clear hfin c0 c1 c2 e1 e2 d1 d2
    have P2 : PR w2 N v1 (ldrop l key) := (hr1.mono (Nat.le_trans hN (by have : W0.drew.heap.size = W0.heap.size := rfl; omega))).put (HTT.out.later D1) F2
    have B3 : Below N w w2 := (HB0.out.mono hN).trans ((D1.mono (by omega)).trans B2)
    cases had
    all_goals
      go_wp2
      go_ret3
      exact ⟨tb, v1, rfl, ⟨fp2, by rw [HF.out]; exact T2, N2, by rw [HF.out]; exact P2⟩, B3⟩
  by_cases h2 : k = 2
  · subst h2
    have hfin : opDo l ⟨2, key, x⟩ = l := by simp [opDo]
    have HF := Lib.hid hfin
    clear hfin
    go_wp2_with fail
    refine Q6.out.mono ?_
    rintro e w1 ⟨tb2, fp2, rfl, T2, N2, B1⟩
    go_wp2_with fail
    refine (Q7.out w1 B1).mono ?_
    rintro e w2 ⟨rfl, hp2⟩
    obtain ⟨fp3, T3, N3, B2, F2, M3⟩ := post_tv hp2 (Nat.le_trans hN (by have := B1.size; omega)) HT2.out
    have hnb2 : ∀ b ∈ fp2, b ∉ fp := fun b hb hm => by have := HTT.out.lt b hm; have := N2 b hb; omega
    have T2' := T2.move fun b hb => F2.block b (T2.lt b hb) (hnb2 b hb)
    obtain ⟨d0, d1, d2⟩ := HC.out w2 ((F2.block _ (by have := B1.size; omega) hnb).trans ((B1.block _ (by omega)).trans HB.out))
    clear c0 c1 c2
    go_wp2_with fail
    refine (Q8.out w2 fp3 T3).mono ?_
    rintro e w3 ⟨rfl, hp3⟩
    obtain ⟨fp4, T4, N4, B4, F4, _⟩ := post_tv hp3 (Nat.le_trans hN (by have := B1.size; have := B2.size; omega)) N3
    have hnb3 : ∀ b ∈ fp2, b ∉ fp3 := fun b hb hm => by
      rcases M3 b hm with e | e
      · exact hnb2 b hb e
      · have := T2.lt b hb; omega
    have hno := PR.not_in HTT.out HPP.out
    have hlt := fun g hg => (Row.lt HPP.out g hg).2
    have P4 : PR w3 N (.slice A l.length c) l := Row.at_ HPP.out fun g hg => by
      have h1 := hlt g hg
      have h2 := B1.size
      have h3 := F2.size
      rw [F4.block g (by omega) (fun hm => by
        rcases M3 g hm with e | e
        · exact hno g hg e
        · omega), F2.block g (by omega) (hno g hg), B1.block g h1]
    have B5 : Below N w w3 := (HB0.out.mono hN).trans ((B1.mono (by omega)).trans (B2.trans B4))
    go_wp2
    go_ret3
    exact ⟨tb2, _, rfl, ⟨fp2, by rw [HF.out]; exact T2'.move fun b hb => F4.block b (T2'.lt b hb) (hnb3 b hb), fun b hb => Nat.le_trans (by omega) (N2 b hb), by rw [HF.out]; exact P4⟩, B5⟩
  · have hfin : opDo l ⟨k, key, x⟩ = l := by simp [opDo, h0, h1]
    have HF := Lib.hid hfin
    clear hfin
    go_wp2
    go_ret3
    exact ⟨tb, _, rfl, ⟨fp, by rw [HF.out]; exact HTT.out, HT2.out, by rw [HF.out]; exact HPP.out⟩, HB0.out.mono hN⟩
end Go.Proofs.Ytkpfendodmfeoaa
