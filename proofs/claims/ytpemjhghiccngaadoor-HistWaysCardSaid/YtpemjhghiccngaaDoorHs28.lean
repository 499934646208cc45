import Derived.Test.YtpemjhghiccngaaDoorHs27
import Derived.Test.YtpemjhghiccngaaDoorIn2
namespace Go.Proofs.YtpemjhghiccngaaDoor
set_option linter.unusedVariables false
set_option linter.unusedSimpArgs false
open Go.RowKit Go.Shelf
def alE : List EntT := [⟨1, [], [97]⟩, ⟨2, [], [98]⟩, ⟨3, [47], [97]⟩]
theorem alE_of : ofL alE = alE := by decide
theorem alE_cmds : cmdsE alE = [[97], [98]] := by decide
theorem alE_uses : usesE alE [97] = [⟨1, [], [97]⟩, ⟨3, [47], [97]⟩] := by decide
theorem alE_add : addL alE ⟨0, [], []⟩ = alE ∧ goneL alE ⟨0, [], []⟩ = [] ∧ codeP ⟨0, [], []⟩ = 160 := by decide
theorem alE_old : fitL (fun _ => true) (olderL (cmdsE alE) [97] true) = ([98], true) := by decide
theorem alE_new : fitL (fun _ => true) (newerL (cmdsE alE) [98]) = ([97], true) := by decide
theorem alE_small : SmallE alE := by
  intro e he
  simp [alE] at he
  rcases he with rfl | rfl | rfl <;> simp
theorem rd_new (w : World) (c : Array Value) (t : TypeId) : Rd (w.alloc (.cells c t)) (some ⟨w.heap.size, 0, none⟩) c.toList := by
  intro k u hk
  refine ⟨_, _, rfl, ?_⟩
  rw [cell_of_row _ w.heap.size _ _ _ (0, 0) (heap_alloc_new w (.cells c t))]
  simpa using hk
set_option maxHeartbeats 3200000 in
set_option maxRecDepth 100000 in
theorem al15_calls (w : World) (hU : U8 w) : Calls Tryd.prog 11 #[] w fun e w' => e = .returned (.bool true) ∧ Below w.heap.size w w' := by
  have HU := Lib.hid hU
  clear hU
  go_enter Tryd.func11, Tryd.ntmps11
  go_wp2_with fail
  obtain ⟨w1, hw1⟩ : ∃ W1, (w.alloc (.cells #[.int .i64 1, .string { data := #[] }, .string { data := #[97] }, .int .i64 2, .string { data := #[] }, .string { data := #[98] }, .int .i64 3, .string { data := #[47] }, .string { data := #[97] }] 35)) = W1 := ⟨_, rfl⟩
  have hr1 : Rd w1 (some ⟨w.heap.size, 0, none⟩) (flatE alE) := by
    rw [← hw1]
    exact rd_new w _ _
  have B1 : Below w.heap.size w w1 := by rw [← hw1]; exact (Below.refl _ w).alloc (Nat.le_refl _) _
  rw [hw1]
  clear hw1
  refine (HOf_calls w1 (HU.out.later B1) _ 3 alE hr1 (by decide) alE_small).mono ?_
  rintro e w2 ⟨hb, rfl, hg2, b2⟩
  rw [alE_of] at hg2
  have B2 := B1.trans (b2.mono B1.size)
  obtain ⟨c, fp, k1, k2, k3⟩ := hg2
  have hg2 : Hi w2 hb alE c fp := k1
  have HK := Lib.hid (And.intro k2 (And.intro k3 (k1.lt)))
  have HG2 := Lib.hid hg2
  clear k1 k2 k3
  have HB2 := Lib.hid B2
  have HS1 := Lib.hid B1.size
  clear hr1 B1 b2 hg2 B2
  go_wp2_with fail
  refine (HgCmds_calls w2 (⟨c, fp, HG2.out, HK.out.1, HK.out.2.1⟩ : Hg w1.heap.size w2 hb alE) (by decide)).mono ?_
  rintro e w3 ⟨A3, c3, rfl, hr3, b3⟩
  rw [alE_cmds] at hr3 ⊢
  obtain ⟨A3', c3', e3, _, _, hd3, hb3⟩ := hr3.rd
  obtain ⟨rfl, rfl⟩ : A3' = A3 ∧ c3' = c3 := by injection e3 with x y z; exact ⟨x.symm, z.symm⟩
  have HD3 := Lib.hid hd3
  have HN3 := Lib.hid hb3
  have HG3 := Lib.hid (HG2.out.later b3)
  have HB3 := Lib.hid (HB2.out.trans (b3.mono HB2.out.size))
  clear hr3 hd3 e3 b3 hb3 HG2
  go_wp2_with fail
  refine (HgUses_calls w3 (⟨c, fp, HG3.out, HK.out.1, HK.out.2.1⟩ : Hg w1.heap.size w3 hb alE) (by decide) [97] _ rfl).mono ?_
  rintro e w4 ⟨A4, c4, rfl, hr4, b4⟩
  rw [alE_uses] at hr4 ⊢
  obtain ⟨A4', c4', e4, _, _, hd4, hb4⟩ := hr4.rd
  obtain ⟨rfl, rfl⟩ : A4' = A4 ∧ c4' = c4 := by injection e4 with x y z; exact ⟨x.symm, z.symm⟩
  have HD4 := Lib.hid hd4
  have HN4 := Lib.hid hb4
  have HD3 := Lib.hid (HD3.out.later b4)
  have HG4 := Lib.hid (HG3.out.later b4)
  have HB4 := Lib.hid (HB3.out.trans (b4.mono HB3.out.size))
  clear hr4 hd4 e4 b4 hb4 HG3
  go_wp2_with fail
  refine (HgOlder_calls w4 (⟨c, fp, HG4.out, HK.out.1, HK.out.2.1⟩ : Hg w1.heap.size w4 hb alE) (by decide) alE_small [97] _ rfl true .nilFunc _ (fitG_nil _ _)).mono ?_
  rintro e w5 ⟨rfl, b5⟩
  rw [alE_old]
  have HD3 := Lib.hid (HD3.out.later b5)
  have HD4 := Lib.hid (HD4.out.later b5)
  have HG5 := Lib.hid (HG4.out.later b5)
  have HB5 := Lib.hid (HB4.out.trans (b5.mono HB4.out.size))
  clear b5 HG4
  go_wp2_with fail
  refine (HgNewer_calls w5 (⟨c, fp, HG5.out, HK.out.1, HK.out.2.1⟩ : Hg w1.heap.size w5 hb alE) (by decide) alE_small [98] _ rfl .nilFunc _ (fitG_nil _ _)).mono ?_
  rintro e w6 ⟨rfl, b6⟩
  rw [alE_new]
  have HD3 := Lib.hid (HD3.out.later b6)
  have HD4 := Lib.hid (HD4.out.later b6)
  have HG6 := Lib.hid (HG5.out.later b6)
  have HB6 := Lib.hid (HB5.out.trans (b6.mono HB5.out.size))
  clear b6 HG5
  go_wp2_with fail
  refine (HAdd_calls w6 (HU.out.later HB6.out) HG6.out (by decide) (by rw [HK.out.1.len]; decide) ⟨0, [], []⟩ (by decide) (by decide)).mono ?_
  rintro e w7 ⟨A7, c7, fp7, rfl, hr7, k71, hf7, k72⟩
  have HSZ : w2.heap.size ≤ w3.heap.size := by
    by_cases h : A3' = none
    · obtain ⟨b, off, e, _⟩ := HD3.out 0 (str [97]) rfl
      rw [h] at e; cases e
    · obtain ⟨a, ha⟩ := Option.ne_none_iff_exists'.1 h
      have := HN3.out a ha
      omega
  have hd3 : Rd w7 A3' ([[97], [98]].map str) := HD3.out.fr hf7 fun a ha _ hm => by
    have h1 := HK.out.2.2 a.block hm
    have h2 := HN3.out a ha
    omega
  have hd4 : Rd w7 A4' (flatU [⟨1, [], [97]⟩, ⟨3, [47], [97]⟩]) := HD4.out.fr hf7 fun a ha _ hm => by
    have h1 := HK.out.2.2 a.block hm
    have h2 := HN4.out a ha
    omega
  obtain ⟨m1, m2, m3⟩ := add_both HK.out.1 ⟨0, [], []⟩
  rw [m1, alE_add.1] at k71
  rw [alE_add.1] at m3
  rw [m2, alE_add.2.1, alE_add.2.2]
  have B7 : Below w.heap.size w w7 := by
    refine HB6.out.trans (hf7.below (by have := HB6.out.size; omega) fun k hk hm => by have := HK.out.2.1 k hm; have := HS1.out; omega)
  obtain ⟨g3, o3, rfl, v30⟩ := hd3 0 (str [97]) rfl
  obtain ⟨g4, o4, rfl, v42⟩ := hd4 2 (.int .i64 3) rfl
  obtain ⟨g4', o4', e4, v43⟩ := hd4 3 (str [47]) rfl
  obtain ⟨rfl, rfl⟩ : g4' = g4 ∧ o4' = o4 := by injection e4 with e4; injection e4 with x y z; exact ⟨x.symm, y.symm⟩
  rw [show str [97] = .string ⟨#[97]⟩ from rfl] at v30
  rw [show str [47] = .string ⟨#[47]⟩ from rfl] at v43
  rw [show str [97] = .string ⟨#[97]⟩ from rfl, show str [98] = .string ⟨#[98]⟩ from rfl]
  rw [Nat.add_zero] at v30
  rw [show o4' + 3 = o4' + 2 + 1 from rfl] at v43
  have HG7 : Hid (Hg 0 w7 hb alE) := Lib.hid (⟨_, fp7, k71, m3, fun b _ => Nat.zero_le b⟩ : Hg 0 w7 hb alE)
  have HB7 := Lib.hid B7
  clear hr7 k71 hf7 k72 m1 m2 m3 e4 hd3 hd4 B7
  go_wp2_with fail
  refine (HgLen_calls w7 HG7.out (by decide)).mono ?_
  rintro e w8 ⟨rfl, rfl⟩
  rw [alE_cmds]
  go_wp2_with fail
  refine (HgEntries_calls w7 HG7.out (by decide)).mono ?_
  rintro e w8 ⟨A8, c8, rfl, _, b8⟩
  have HG8 := Lib.hid (HG7.out.later b8)
  have HB8 := Lib.hid (HB7.out.trans (b8.mono HB7.out.size))
  clear b8 HG7 v30 v42 v43
  go_wp2_with fail
  refine (HgCopy_calls w8 HG8.out (by decide)).mono ?_
  rintro e w9 ⟨hb', rfl, _, b9⟩
  go_wp2
  go_ret
  exact ⟨rfl, HB8.out.trans (b9.mono HB8.out.size)⟩
end Go.Proofs.YtpemjhghiccngaaDoor
namespace Go.Proofs.YtpemjhghiccngaaDoor
set_option linter.unusedVariables false
set_option linter.unusedSimpArgs false
open Go.RowKit Go.Shelf
theorem Row.rdS {w : World} {B : Nat} {e : TypeId} {sz : Nat} {A : Option Addr} {n c : Nat} {xs : List Value} (h : Row w B e sz (.slice A n c) n xs) : Rd w A xs ∧ ∀ a, A = some a → B ≤ a.block ∧ a.block < w.heap.size := by
  obtain ⟨A', c', e2, _, _, h1, h2⟩ := h.rd
  injection e2 with x y z
  subst x
  exact ⟨h1, h2⟩
theorem sumE_mem : {l : List EntT} → {e : EntT} → e ∈ l → e.d.length + e.c.length ≤ sumE l
  | x :: l, e, h => by
      rw [sumE]
      rcases List.mem_cons.1 h with r | r
      · rw [r]; omega
      · have := sumE_mem r; omega
theorem few_small {l : List EntT} (h : fewE l = true) : l.length ≤ 120 ∧ ∀ e ∈ l, e.d.length ≤ 8000 ∧ e.c.length ≤ 8000 := by
  unfold fewE at h
  have h2 := of_decide_eq_true h
  refine ⟨h2.1, fun e he => ?_⟩
  have := sumE_mem he
  omega
theorem few_smallE {l : List EntT} (h : fewE l = true) : SmallE l := fun e he => by
  have := (few_small h).2 e he
  omega
/-- hist.Of(law12.New(l)). -/
theorem OfNew {w : World} (hU : U8 w) {l : List EntT} (hf : fewE l = true) {w' : World} (hb : Below w.heap.size w w') {A1 : Option Addr} {c1 : Nat} (hr : Rd w' A1 (flatE l)) :
    Calls Tryd.prog 22 #[.slice A1 l.length c1] w' fun x w2 => ∃ hb, x = .returned (hptr hb) ∧ Hg w'.heap.size w2 hb (ofL l) ∧ Below w'.heap.size w' w2 :=
  HOf_calls w' (hU.later hb) A1 c1 l hr (by have := (few_small hf).1; omega) (few_smallE hf)
theorem of_len100 {l : List EntT} (hf : fewE l = true) : (ofL l).length ≤ 120 := Nat.le_trans (ofL_sub l).length_le (few_small hf).1
theorem Same_self (w : World) (A : Option Addr) (c : Nat) (a : List EntT) (A' : Option Addr) (c' : Nat) (ha : Rd w A (flatE a)) (hb : Rd w A' (flatE a)) (hla : a.length ≤ 1000000) :
    Calls Tryd.prog 16 #[.slice A a.length c, .slice A' a.length c'] w fun e w' => e = .returned (.bool true) ∧ Below w.heap.size w w' :=
  (Same_calls w A c a A' c' a ha hb hla hla).mono fun e w' h => ⟨by rw [h.1, decide_eq_true rfl], h.2⟩
theorem texts_self (w : World) (A : Option Addr) (c : Nat) (a : List Bs) (A' : Option Addr) (c' : Nat) (ha : Rd w A (a.map str)) (hb : Rd w A' (a.map str)) (hla : a.length ≤ 1000000) :
    Calls Tryd.prog 15 #[.slice A a.length c, .slice A' a.length c'] w fun e w' => e = .returned (.bool true) ∧ Below w.heap.size w w' :=
  (texts_calls w A c a A' c' a ha hb hla hla).mono fun e w' h => ⟨by rw [h.1, decide_eq_true rfl], h.2⟩
/-- What a law of chapter 15 is asked of. -/
structure In15 (w : World) (A : Option Addr) (l : List EntT) : Prop where
  u8 : U8 w
  rd : Rd w A (flatE l)
  blk : ∀ a, A = some a → l ≠ [] → a.block < w.heap.size
  len : l.length ≤ 140737488351232
  keys : ∀ o ∈ l, o.d.length ≤ 140737488351232 ∧ o.c.length ≤ 140737488351232
set_option maxHeartbeats 3200000 in
set_option maxRecDepth 100000 in
theorem HistAgain_walk (w : World) (A : Option Addr) (c : Nat) (l : List EntT) (hi : In15 w A l) :
    Calls Tryd.prog 5 #[.slice A l.length c] w fun e w' => e = .returned (.bool true) ∧ Below w.heap.size w w' := by
  have HI := Lib.hid hi
  have hfew := Lib.hid (few15_calls w A c l hi.rd hi.blk hi.len hi.keys)
  clear hi
  obtain ⟨b, hb⟩ : ∃ b, b = fewE l := ⟨_, rfl⟩
  rw [← hb] at hfew
  cases b with
  | false =>
    clear hb
    go_enter Tryd.func5, Tryd.ntmps5
    go_wp2_with fail
    refine hfew.out.mono ?_
    rintro e w1 ⟨rfl, b1⟩
    go_wp2_with fail
    refine (al15_calls w1 (HI.out.u8.later b1)).mono ?_
    rintro e w2 ⟨rfl, b2⟩
    go_wp2
    go_ret
    exact ⟨rfl, b1.trans (b2.mono b1.size)⟩
  | true =>
    have HF := Lib.hid hb.symm
    clear hb
    go_enter Tryd.func5, Tryd.ntmps5
    go_wp2_with fail
    refine hfew.out.mono ?_
    rintro e w1 ⟨rfl, b1⟩
    go_wp2_with fail
    refine (New12_calls w1 A c l (HI.out.rd.later b1) (by have := (few_small HF.out).1; omega)).mono ?_
    rintro e w2 ⟨A2, c2, rfl, hr2, b2⟩
    have B2 := b1.trans (b2.mono b1.size)
    have q := OfNew HI.out.u8 HF.out B2 (c1 := c2) hr2.rdS.1
    have HB2 := Lib.hid B2
    have Q := Lib.hid q
    clear hr2 b1 b2 B2 q
    go_wp2_with fail
    refine Q.out.mono ?_
    rintro e w3 ⟨hb, rfl, hg3, b3⟩
    have hlen := of_len100 HF.out
    have HG3 := Lib.hid hg3
    have HB3 := Lib.hid (HB2.out.trans (b3.mono HB2.out.size))
    have HSM := Lib.hid (SmallE.of (few_smallE HF.out))
    have HAG := Lib.hid (ofL_again l)
    obtain ⟨L, hL⟩ : ∃ L, L = ofL l := ⟨_, rfl⟩
    rw [← hL] at hlen HG3 HSM HAG
    clear hL hg3 b3
    go_wp2_with fail
    refine (HgEntries_calls w3 HG3.out (by omega)).mono ?_
    rintro e w4 ⟨A4, c4, rfl, hr4, b4⟩
    have HG4 := Lib.hid (HG3.out.later b4)
    have HB4 := Lib.hid (HB3.out.trans (b4.mono HB3.out.size))
    have q4 := HOf_calls w4 (HI.out.u8.later HB4.out) A4 c4 L hr4.rdS.1 (by omega) HSM.out
    have Q4 := Lib.hid q4
    clear hr4 b4 q4
    go_wp2_with fail
    refine Q4.out.mono ?_
    rintro e w5 ⟨hk, rfl, hg5, b5⟩
    rw [HAG.out] at hg5
    have HK5 := Lib.hid hg5
    have HG5 := Lib.hid (HG4.out.later b5)
    have HB5 := Lib.hid (HB4.out.trans (b5.mono HB4.out.size))
    clear hg5 b5
    go_wp2_with fail
    refine (al15_calls w5 (HI.out.u8.later HB5.out)).mono ?_
    rintro e w6 ⟨rfl, b6⟩
    have HG6 := Lib.hid (HG5.out.later b6)
    have HK6 := Lib.hid (HK5.out.later b6)
    have HB6 := Lib.hid (HB5.out.trans (b6.mono HB5.out.size))
    clear b6
    go_wp2_with fail
    refine (HgEntries_calls w6 HG6.out (by omega)).mono ?_
    rintro e w7 ⟨A7, c7, rfl, hr7, b7⟩
    have HG7 := Lib.hid (HG6.out.later b7)
    have HK7 := Lib.hid (HK6.out.later b7)
    have HB7 := Lib.hid (HB6.out.trans (b7.mono HB6.out.size))
    have q7 := Lib.hid (Old_calls w7 A7 c7 L hr7.rdS.1 (by omega))
    clear b7 hr7
    go_wp2_with fail
    refine q7.out.mono ?_
    rintro e w8 ⟨A8, c8, rfl, hr8, b8⟩
    have HG8 := Lib.hid (HG7.out.later b8)
    have HK8 := Lib.hid (HK7.out.later b8)
    have HB8 := Lib.hid (HB7.out.trans (b8.mono HB7.out.size))
    have HR8 := Lib.hid hr8.rdS.1
    clear b8 hr8
    go_wp2_with fail
    refine (HgEntries_calls w8 HK8.out (by omega)).mono ?_
    rintro e w9 ⟨A9, c9, rfl, hr9, b9⟩
    have HG9 := Lib.hid (HG8.out.later b9)
    have HK9 := Lib.hid (HK8.out.later b9)
    have HB9 := Lib.hid (HB8.out.trans (b9.mono HB8.out.size))
    have HR9 := Lib.hid (HR8.out.later b9)
    have q9 := Lib.hid (Old_calls w9 A9 c9 L hr9.rdS.1 (by omega))
    clear b9 hr9
    go_wp2_with fail
    refine q9.out.mono ?_
    rintro e w10 ⟨A10, c10, rfl, hr10, b10⟩
    have HG10 := Lib.hid (HG9.out.later b10)
    have HK10 := Lib.hid (HK9.out.later b10)
    have HB10 := Lib.hid (HB9.out.trans (b10.mono HB9.out.size))
    have q10 := Lib.hid (Same_self w10 A8 c8 L A10 c10 (HR9.out.later b10) hr10.rdS.1 (by omega))
    clear b10 hr10
    go_wp2_with fail
    refine q10.out.mono ?_
    rintro e w11 ⟨rfl, b11⟩
    have HG11 := Lib.hid (HG10.out.later b11)
    have HK11 := Lib.hid (HK10.out.later b11)
    have HB11 := Lib.hid (HB10.out.trans (b11.mono HB10.out.size))
    clear b11
    go_wp2_with fail
    refine (HgCmds_calls w11 HG11.out (by omega)).mono ?_
    rintro e w12 ⟨A12, c12, rfl, hr12, b12⟩
    have HK12 := Lib.hid (HK11.out.later b12)
    have HB12 := Lib.hid (HB11.out.trans (b12.mono HB11.out.size))
    have HR12 := Lib.hid hr12.rdS.1
    clear b12 hr12
    go_wp2_with fail
    refine (HgCmds_calls w12 HK12.out (by omega)).mono ?_
    rintro e w13 ⟨A13, c13, rfl, hr13, b13⟩
    have HB13 := Lib.hid (HB12.out.trans (b13.mono HB12.out.size))
    have hcl := cmdsE_len L
    have q13 := Lib.hid (texts_self w13 A12 c12 (cmdsE L) A13 c13 (HR12.out.later b13) hr13.rdS.1 (by omega))
    clear b13 hr13
    go_wp2_with fail
    refine q13.out.mono ?_
    rintro e w14 ⟨rfl, b14⟩
    go_wp2
    go_ret
    exact ⟨rfl, HB13.out.trans (b14.mono HB13.out.size)⟩
end Go.Proofs.YtpemjhghiccngaaDoor
namespace Go.Proofs.YtpemjhghiccngaaDoor
set_option linter.unusedVariables false
set_option linter.unusedSimpArgs false
open Go.RowKit Go.ChangeShapes Go.WideShapes Go.Deep
/-! What came in, in chapter 15. -/
theorem ba_eq15 (s : ByteArray) : (⟨s.data.toList.toArray⟩ : ByteArray) = s := by cases s; simp
set_option maxRecDepth 100000 in
theorem in_ents {H : Type} {enc : TypeId × Value → H} {w : World} {r : Reach} {b0 : Nat} {v : Value} {d : DataW H} {p : List MemPlace} (hv : Value.okWide Tryd.prog w r b0 22 v) (h : DataW.Trod enc Tryd.prog w 0 (fun _ => true) true 22 v d p) (hz : ∀ n ∈ d.weights Tryd.prog 22, n ≤ reachBytes) (hU : U8 w) :
    ∃ A c l, v = .slice A l.length c ∧ In15 w A l := by
  obtain ⟨A, n, c, rows, rfl, h1, h2, h3, h4, h5, h6⟩ := in_rows (by_ := 40) Tryd.underlying22 Tryd.underlying28 (by kernel_rfl) (by kernel_rfl) (by decide) (by kernel_rfl) hv h hz
  obtain ⟨l, hl, hall⟩ := exists_map (f := entCells) (p := fun o => o.d.length ≤ 140737488351232 ∧ o.c.length ≤ 140737488351232) rows (fun r hr => by
    obtain ⟨hl, hf⟩ := h6 r hr
    match r, hl with
    | [x0, x1, x2], _ =>
      obtain ⟨k, rfl, _⟩ := (hf 0 _ x0 rfl rfl).int Tryd.underlying3
      obtain ⟨s, rfl, hs⟩ := (hf 1 _ x1 rfl rfl).string Tryd.underlying9
      obtain ⟨y, rfl, hy⟩ := (hf 2 _ x2 rfl rfl).string Tryd.underlying9
      refine ⟨⟨k, s.data.toList, y.data.toList⟩, ?_, ?_⟩
      · show _ = [Value.int .i64 k, .string ⟨s.data.toList.toArray⟩, .string ⟨y.data.toList.toArray⟩]
        rw [ba_eq15, ba_eq15]
      · rw [Array.length_toList, Array.length_toList]; exact ⟨hs, hy⟩)
  subst hl
  rw [List.length_map] at h4
  have hb : c * 40 ≤ 140737488351232 := h3
  refine ⟨A, c, l, by rw [h4], ⟨hU, h5, fun a ha hne => h5.lt ha (fun e => ?_), by omega, hall⟩⟩
  cases l with
  | nil => exact hne rfl
  | cons o os => simp [entCells] at e
set_option maxRecDepth 100000 in
theorem in_ent {H : Type} {enc : TypeId × Value → H} {w : World} {r : Reach} {b0 : Nat} {v : Value} {d : DataW H} {p : List MemPlace} (hv : Value.okWide Tryd.prog w r b0 28 v) (h : DataW.Trod enc Tryd.prog w 0 (fun _ => true) true 28 v d p) (hz : ∀ n ∈ d.weights Tryd.prog 28, n ≤ reachBytes) :
    ∃ e : EntT, v = entV e ∧ e.d.length ≤ 140737488351232 ∧ e.c.length ≤ 140737488351232 := by
  obtain ⟨xs, rfl, hsz, hf⟩ := in_struct Tryd.underlying28 (by kernel_rfl) (by kernel_rfl) hv h hz
  obtain ⟨xs⟩ := xs
  match xs, hsz with
  | [x0, x1, x2], _ =>
    obtain ⟨k, rfl, _⟩ := (hf 0 _ x0 rfl rfl).int Tryd.underlying3
    obtain ⟨s, rfl, hs⟩ := (hf 1 _ x1 rfl rfl).string Tryd.underlying9
    obtain ⟨y, rfl, hy⟩ := (hf 2 _ x2 rfl rfl).string Tryd.underlying9
    refine ⟨⟨k, s.data.toList, y.data.toList⟩, ?_, ?_⟩
    · show _ = Value.agg #[Value.int .i64 k, .string ⟨s.data.toList.toArray⟩, .string ⟨y.data.toList.toArray⟩]
      rw [ba_eq15, ba_eq15]
    · rw [Array.length_toList, Array.length_toList]; exact ⟨hs, hy⟩
set_option maxRecDepth 100000 in
theorem in_way {H : Type} {enc : TypeId × Value → H} {w : World} {r : Reach} {b0 : Nat} {v : Value} {d : DataW H} {p : List MemPlace} (hv : Value.okWide Tryd.prog w r b0 59 v) (h : DataW.Trod enc Tryd.prog w 0 (fun _ => true) true 59 v d p) (hz : ∀ n ∈ d.weights Tryd.prog 59, n ≤ reachBytes) :
    ∃ (s : ByteArray) (b : Bool), v = .agg #[.string s, .bool b] ∧ s.size ≤ 140737488351232 := by
  obtain ⟨xs, rfl, hsz, hf⟩ := in_struct Tryd.underlying59 (by kernel_rfl) (by kernel_rfl) hv h hz
  obtain ⟨xs⟩ := xs
  match xs, hsz with
  | [x0, x1], _ =>
    obtain ⟨s, rfl, hs⟩ := (hf 0 _ x0 rfl rfl).string Tryd.underlying9
    obtain ⟨b, rfl⟩ := (hf 1 _ x1 rfl rfl).bool Tryd.underlying4
    exact ⟨s, b, rfl, hs⟩
end Go.Proofs.YtpemjhghiccngaaDoor
