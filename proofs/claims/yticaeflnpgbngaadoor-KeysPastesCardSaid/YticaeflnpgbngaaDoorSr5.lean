import Derived.Test.YticaeflnpgbngaaDoorSr4s
import Derived.Test.YticaeflnpgbngaaDoorPu
namespace Go.Proofs.YticaeflnpgbngaaDoor
open Go.RowKit
/-- The slice at A reads as slices that read as ls. -/
def RdBs (w : World) (A : Option Addr) (ls : List Bs) : Prop :=
  ∀ k m, ls[k]? = some m → ∃ b off Ak ck, A = some ⟨b, off, none⟩ ∧ w.cell? ⟨b, off + k, none⟩ = some (.slice Ak m.length ck) ∧ m.length ≤ ck ∧ RdB w Ak m
theorem RdBs.later {w w' : World} {A : Option Addr} {ls : List Bs} (h : RdBs w A ls) (hb : Below w.heap.size w w') : RdBs w' A ls := by
  intro k m hk
  obtain ⟨b, off, Ak, ck, e, hc, hl, hr⟩ := h k m hk
  exact ⟨b, off, Ak, ck, e, (hb.cell (p := ⟨b, off + k, none⟩) (World.block_lt_of_cell? w _ hc)).trans hc, hl, hr.later hb⟩
/-- One block for each of some rows of bytes, and one for the slices of these. -/
def rowsOf (w : World) : List Bs → World
  | [] => w
  | m :: r => rowsOf (w.alloc (.cells (m.map byt).toArray 5)) r
def heads (n : Nat) : List Bs → List Value
  | [] => []
  | m :: r => .slice (some ⟨n, 0, none⟩) m.length m.length :: heads (n + 1) r
theorem rowsOf_size (ls : List Bs) : ∀ w : World, (rowsOf w ls).heap.size = w.heap.size + ls.length := by
  induction ls with
  | nil => intro w; rfl
  | cons m r ih => intro w; rw [rowsOf, ih]; simp; omega
theorem rowsOf_below (ls : List Bs) : ∀ w : World, Below w.heap.size w (rowsOf w ls) := by
  induction ls with
  | nil => intro w; exact Below.refl _ _
  | cons m r ih => intro w; exact ((Below.refl _ w).alloc (Nat.le_refl _) _).trans ((ih _).mono (by simp))
theorem heads_at (ls : List Bs) : ∀ (w : World) (k : Nat) (m : Bs), ls[k]? = some m → (heads w.heap.size ls)[k]? = some (.slice (some ⟨w.heap.size + k, 0, none⟩) m.length m.length) ∧ RdB (rowsOf w ls) (some ⟨w.heap.size + k, 0, none⟩) m := by
  induction ls with
  | nil => intro w k m h; simp at h
  | cons m0 r ih =>
    intro w k m h
    cases k with
    | zero =>
      simp at h; subst h
      refine ⟨rfl, ?_⟩
      rw [rowsOf]
      refine Rd.later ?_ (rowsOf_below r _)
      intro j u hj
      refine ⟨w.heap.size, 0, rfl, ?_⟩
      rw [cell_of_row _ _ _ _ _ (0, 0) (heap_alloc_new w _)]
      simpa using hj
    | succ k =>
      have := ih (w.alloc (.cells (m0.map byt).toArray 5)) k m (by simpa using h)
      rw [World.size_alloc, show w.heap.size + 1 + k = w.heap.size + (k + 1) by omega] at this
      rw [heads, rowsOf]
      exact ⟨by simpa using this.1, this.2⟩
theorem rowsOf_rd (ls : List Bs) (w : World) (e : TypeId) : RdBs ((rowsOf w ls).alloc (.cells (heads w.heap.size ls).toArray e)) (some ⟨w.heap.size + ls.length, 0, none⟩) ls := by
  intro k m hk
  obtain ⟨h1, h2⟩ := heads_at ls w k m hk
  refine ⟨_, _, _, m.length, rfl, ?_, Nat.le_refl _, h2.later ((Below.refl _ _).alloc (Nat.le_refl _) _)⟩
  rw [cell_of_row _ _ _ (heads w.heap.size ls).toArray e (0, 0) (by rw [← rowsOf_size]; exact heap_alloc_new _ _)]
  simpa using h1
set_option maxHeartbeats 4000000 in
set_option maxRecDepth 100000 in
/-- ref.Whole. -/
theorem rWhole_calls (A : Option Addr) (c : Nat) (l : Bs) (w : World) (hr : RdB w A l) (hlc : l.length ≤ c) (hl : l.length ≤ 4294967296) :
    Calls Tryd.prog 47 #[.slice A l.length c] w fun e w' => e = .returned (.bool (whole l)) ∧ Below w.heap.size w w' := by
  have hrw := rwhole_eq l
  by_cases h0 : l = []
  · subst h0
    go_enter Tryd.func47, Tryd.ntmps47
    go_wp2
    go_ret
    exact ⟨rfl, Below.refl _ _⟩
  have hlp : 0 < l.length := List.length_pos_iff.2 h0
  have hlz : ((l.length : Int) == 0) = false := by simp; omega
  unfold rwhole at hrw
  rw [if_neg h0] at hrw
  by_cases h4 : 4 ≤ l.length
  · rw [if_pos h4] at hrw
    rw [← hrw]
    go_enter Tryd.func47, Tryd.ntmps47
    go_wp2
    go_ret
    exact ⟨rfl, Below.refl _ _⟩
  rw [if_neg h4] at hrw
  have hnx := nxt_ne h0
  obtain ⟨b, off, rfl, hc⟩ := hr.cell h0
  have hc0 := hc 0 hlp
  simp only [Nat.add_zero] at hc0
  have hbw := World.block_lt_of_cell? w _ hc0
  clear hc
  by_cases h1 : 1 < (dec l).2 ∨ at' l 0 < 128
  · rw [if_pos h1] at hrw
    rw [← hrw]
    clear hrw
    by_cases h2 : 1 < (dec l).2
    all_goals (first | (have h3 : at' l 0 < 128 := by omega) | skip)
    all_goals clear h1
    all_goals
      go_enter Tryd.func47, Tryd.ntmps47
      go_wp2_with (go_at_call 42; refine (rNext_calls _ c l w hr hl).mono ?_; rintro e w2 ⟨rfl, hb2⟩; rw [hnx]; have hc2 := (hb2.cell (p := ⟨b, off, none⟩) hbw).trans hc0)
      go_ret
      exact ⟨rfl, hb2⟩
  rw [if_neg h1] at hrw
  have h2 : (dec l).2 ≤ 1 := by omega
  have h3 : 128 ≤ at' l 0 := by omega
  clear h1
  have HRW := Lib.hid hrw
  have HR := Lib.hid hr
  clear hrw hr
  go_enter Tryd.func47, Tryd.ntmps47
  go_wp2_with (go_at_call 42; refine (rNext_calls _ c l w HR.out hl).mono ?_; rintro e w2 ⟨rfl, hb2⟩; rw [hnx]; have hc2 := (hb2.cell (p := ⟨b, off, none⟩) hbw).trans hc0)
  simp only [Nat.add_assoc, Nat.reduceAdd]
  go_loopw [6] (fun u6 wr => ∃ k : Nat, u6 = .int .i64 k ∧ k ≤ 16 ∧ RdBs wr (some ⟨w2.heap.size + 16, 0, none⟩) mores ∧ Below w2.heap.size w2 wr ∧ ∀ j m, j < k → mores[j]? = some m → (dec (l ++ m)).2 ≤ l.length) (fun u6 _ => 16 - (intOf u6).toNat)
  case atStart =>
    refine ⟨0, rfl, by omega, rowsOf_rd mores w2 25, ?_, fun j m hj => by omega⟩
    exact (rowsOf_below mores w2).alloc (by rw [rowsOf_size]; omega) (.cells (heads w2.heap.size mores).toArray 25)
  case round =>
    obtain ⟨k, rfl, hk, hrm, hb, hall⟩ := hrel
    have HALL := Lib.hid hall
    clear hall
    by_cases hlt : k < 16
    · obtain ⟨m, hm⟩ : ∃ m, mores[k]? = some m := ⟨_, List.getElem?_eq_getElem (show k < mores.length from hlt)⟩
      obtain ⟨bo, oo, Ak, ck, hA, hcell, hck, hrk⟩ := hrm k m hm
      cases hA
      have HRM := Lib.hid hrm
      have HM := Lib.hid hm
      have HRK := Lib.hid hrk
      clear hrm hm hrk
      simp only [Nat.zero_add] at hcell
      have hcw := World.block_lt_of_cell? wr _ hcell
      have hm3 : m.length ≤ 3 := by
        have : ∀ m ∈ mores, m.length ≤ 3 := by decide
        exact this m (List.mem_of_getElem? HM.out)
      have i0 : (0 : Int) ≤ (k : Int) := by omega
      have i1 : (k : Int) < (16 : Int) := by omega
      have hbr : Below w.heap.size w wr := hb2.trans (hb.mono hb2.size)
      have hrd : ∀ W, Below wr.heap.size wr W → Rd W (some ⟨b, off, none⟩) (l.map byt) := fun W h => (HR.out.later hbr).later h
      have hrk2 : ∀ W, Below wr.heap.size wr W → Rd W Ak (m.map byt) := fun W h => Rd.later HRK.out h
      have HRD := Lib.hid hrd
      have HRK2 := Lib.hid hrk2
      have HCELL := Lib.hid hcell
      clear hrd hrk2
      go_wp2
      go_region_held3 (fun w' => w'.cell? ⟨w2.heap.size + 16, k, none⟩ = some (.slice Ak m.length ck)) (first
        | go_keep
        | exact (hbw4.cell (p := ⟨w2.heap.size + 16, k, none⟩) hcw).trans HCELL.out
        | exact (hbw3.cell (p := ⟨w2.heap.size + 16, k, none⟩) hcw).trans HCELL.out)
        (first
        | (refine step_append_row _ (by rfl) _ _ _ (by rfl) wr.heap.size 5 1 1 _ Tryd.underlying25 Tryd.info_u8 rfl (by decide) (.slice (some ⟨wr.heap.size, 0, none⟩) 0 0) 0 [] (by rfl) (Row.new _ #[] _ _ _ _ (by simp) (by simp [maxLen]) (by simp)) (some ⟨b, off, none⟩) _ _ (l.map byt) (by rfl) (by simp) (HRD.out _ (by go_grown)) (by simp [Value.oneCell']) (by omega) (by simp only [maxLen]; omega) (by simp) ?_; intro A1 c1 w3 hrow1 hg1 hb1; have hbw3 : Below wr.heap.size wr w3 := Below.grown (by go_grown) hg1 (by simp) (fun j e => by simp [Value.ownBlock] at e; omega))
        | (refine step_append_row _ (by rfl) _ _ _ (by rfl) wr.heap.size 5 1 1 _ Tryd.underlying25 Tryd.info_u8 rfl (by decide) (.slice A1 (0 + l.length) c1) (0 + l.length) ([] ++ l.map byt) (by rfl) hrow1 Ak _ _ (m.map byt) (by rfl) (by simp) (HRK2.out _ hbw3) (by simp [Value.oneCell']) (by omega) (by simp only [maxLen]; omega) hbw3.size ?_; intro A2 c2 w4 hrow2 hg2 hb2x; have hbw4 : Below wr.heap.size wr w4 := Below.grown hbw3 hg2 hbw3.size (fun j e => (hrow1.lt _ e).1)))
      obtain ⟨lm, hlmq⟩ : ∃ x : Bs, x = l ++ m := ⟨_, rfl⟩
      have hrd4 : RdB w4 A2 lm := by
        obtain ⟨A', c', e, _, _, h, _⟩ := hrow2.rd
        cases e; unfold RdB; rw [hlmq]; simpa using h
      have hlen4 : l.length + m.length = lm.length := by rw [hlmq]; simp
      simp only [hlen4, Nat.zero_add]
      have hnx4 := nxt_ne (l := lm) (by rw [hlmq]; simp [h0])
      have hlm : lm.length ≤ 4294967296 := by rw [← hlen4]; omega
      have HLM := Lib.hid hlmq
      have HRD4 := Lib.hid hrd4
      clear hlmq hlen4 hrd4 hrow1 hrow2 hg1 hg2 hb1 hb2x HRD HRK2
      by_cases hd : (dec lm).2 ≤ l.length
      · go_wp2_with (go_at_call 42; with_reducible refine (rNext_calls A2 c2 lm w4 HRD4.out hlm).mono ?_; rintro e w5 ⟨rfl, hb5⟩; rw [hnx4])
        go_roundw
        case rel =>
          have hbe5 : Below wr.heap.size wr w5 := hbw4.trans (hb5.mono hbw4.size)
          refine ⟨k + 1, by go_num, by omega, HRM.out.later hbe5, hb.trans (hbe5.mono hb.size), fun j m' hj hm' => ?_⟩
          rcases Nat.lt_succ_iff_lt_or_eq.1 hj with h | h
          · exact HALL.out j m' h hm'
          · rw [h, HM.out] at hm'; cases hm'; rw [← HLM.out]; exact hd
        case measure => simp [intOf]; omega
      · go_wp2_with (go_at_call 42; with_reducible refine (rNext_calls A2 c2 lm w4 HRD4.out hlm).mono ?_; rintro e w5 ⟨rfl, hb5⟩; rw [hnx4])
        go_ret
        have hbe5 : Below wr.heap.size wr w5 := hbw4.trans (hb5.mono hbw4.size)
        refine ⟨?_, hbr.trans (hbe5.mono hbr.size)⟩
        have : whole l = false := by
          rw [← HRW.out, ← Bool.not_eq_true, List.all_eq_true]
          intro h
          rw [HLM.out] at hd; exact hd (of_decide_eq_true (h m (List.mem_of_getElem? HM.out)))
        rw [this]; rfl
    · go_wp2
      go_ret
      have hkk : k = 16 := by omega
      refine ⟨?_, hb2.trans (hb.mono hb2.size)⟩
      have : whole l = true := by
        rw [← HRW.out, List.all_eq_true]
        intro m hm
        obtain ⟨j, hj, hjm⟩ := List.getElem_of_mem hm
        exact decide_eq_true (HALL.out j m (by rw [hkk]; exact hj) (by rw [List.getElem?_eq_getElem hj, hjm]))
      rw [this]; rfl
end Go.Proofs.YticaeflnpgbngaaDoor
