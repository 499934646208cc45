import Derived.Test.YtpemjhghiccngaaDoorHs37
import Derived.Test.YtpemjhghiccngaaDoorSh
import Derived.Shelf.Vars
namespace Go.Proofs.YtpemjhghiccngaaDoor
set_option linter.unusedVariables false
set_option linter.unusedSimpArgs false
open Go.RowKit Go.Shelf
/-! HistWays. -/
theorem hasPrefixL_calls (a b : Bs) (s t : ByteArray) (hs : s = ⟨a.toArray⟩) (ht : t = ⟨b.toArray⟩) (ha : a.length ≤ 4294967296) (hb : b.length ≤ 4294967296) (w : World) :
    Calls Tryd.prog 53 #[.string s, .string t] w fun e w' => e = .returned (.bool (decide (b <+: a))) ∧ w = w' := by
  have hsz : s.size = a.length := by rw [hs, str_of]
  have htz : t.size = b.length := by rw [ht, str_of]
  have hx := extract_eq a 0 b.length
  rw [← hs, List.drop_zero] at hx
  by_cases hl : b.length ≤ a.length
  · have i1 : (t.size : Int) ≤ (s.size : Int) := by omega
    have hbe : ((s.extract 0 b.length).toList == t.toList) = decide (b <+: a) := by
      rw [hx, ht, str_beq rfl rfl, Bool.eq_iff_iff]
      simp [prefix_iff15, hl]
    have HB := Lib.hid hbe
    have HS := Lib.hid hs
    have HT := Lib.hid ht
    clear hs ht hx hbe
    go_enter Tryd.func53, Tryd.ntmps53
    go_wp2
    go_ret
    exact ⟨by rw [← HB.out]; rfl, rfl⟩
  · have i1 : ¬ (t.size : Int) ≤ (s.size : Int) := by omega
    have hbe : decide (b <+: a) = false := decide_eq_false fun h => hl ((prefix_iff15 a b).1 h).1
    have HB := Lib.hid hbe
    have HS := Lib.hid hs
    have HT := Lib.hid ht
    clear hs ht hx hbe
    go_enter Tryd.func53, Tryd.ntmps53
    go_wp2
    go_ret
    exact ⟨by rw [HB.out]; rfl, rfl⟩
theorem hasPrefix_calls (a b : Bs) (s t : ByteArray) (hs : s = ⟨a.toArray⟩) (ht : t = ⟨b.toArray⟩) (ha : a.length ≤ 4294967296) (hb : b.length ≤ 4294967296) (w : World) :
    Calls Tryd.prog 32 #[.string s, .string t] w fun e w' => e = .returned (.bool (decide (b <+: a))) ∧ w = w' := by
  have HC := Lib.hid (hasPrefixL_calls a b s t hs ht ha hb w)
  clear hs ht
  go_enter Tryd.func32, Tryd.ntmps32
  go_wp2_with fail
  refine HC.out.mono ?_
  rintro e w' ⟨rfl, rfl⟩
  go_wp2
  go_ret
  exact ⟨rfl, rfl⟩
theorem cellD {w w' : World} (h : Below w.heap.size w w') {a : Addr} {v : Value} (hc : w.cell? a = some v) : w'.cell? a = some v := by
  rw [h.cell (World.block_lt_of_cell? w a hc)]
  exact hc
/-- The library's own variable holds some number. -/
def G0 (W : World) : Prop := ∃ m, W.cell? ⟨0, 0, none⟩ = some (.int .i64 m)
theorem G0.of {w : World} (h : w.ShapedOpen Tryd.prog) : G0 w := cell_of_shapedOpen_int (P := Tryd.prog) (g := 0) (t := 3) (zero := #[.int .i64 0]) h (of_decide_eq_true (by kernel_rfl)) (by kernel_rfl) rfl (by kernel_rfl) (by kernel_rfl) Tryd.underlying3
theorem G0.later {w w' : World} (h : G0 w) (hb : Below w.heap.size w w') : G0 w' := by
  obtain ⟨m, hm⟩ := h
  exact ⟨m, cellD hb hm⟩
abbrev wayO (ss : ByteArray) (is : Bool) : Obj := .cells #[.string ss, .bool is] 59 (0, 0)
theorem way_cells {W : World} {b : Nat} {ss : ByteArray} {is : Bool} (h : W.heap[b]? = some (wayO ss is)) : W.cell? ⟨b, 0, none⟩ = some (.string ss) ∧ W.cell? ⟨b, 1, none⟩ = some (.bool is) :=
  ⟨by rw [cell_of_row W b _ _ _ (0, 0) h]; rfl, by rw [cell_of_row W b _ _ _ (0, 0) h]; rfl⟩
theorem fitF1 (cb : Nat) (s : Bs) (ss : ByteArray) (hss : ss = ⟨s.toArray⟩) (hs : s.length ≤ 1000000) (is : Bool) : FitF 1000000 31 cb (fun W => W.heap[cb]? = some (wayO ss is)) (fun c => fitsM false c s) := by
  refine ⟨fun _ _ => by kernel_rfl, fun W x hx hW => ?_, fun W W' hb h => keepB h hb⟩
  obtain ⟨c0, c1⟩ := way_cells hW
  obtain ⟨sx, hsx⟩ : ∃ q : ByteArray, q = ⟨x.toArray⟩ := ⟨_, rfl⟩
  have q := hasPrefix_calls x s sx ss hsx hss (by omega) (by omega) W
  have hp : fitsM false x s = decide (s <+: x) := rfl
  rw [hp, show str x = .string sx from lit_of hsx]
  have Q := Lib.hid q
  clear hsx hss hs hx hp q hW
  go_enter Tryd.func31, Tryd.ntmps31
  go_wp2_with ((with_reducible refine Q.out.mono ?_); rintro e w' ⟨rfl, rfl⟩)
  go_ret
  exact ⟨rfl, Below.refl _ _⟩
theorem fitF2 (cb : Nat) (s : Bs) (ss : ByteArray) (hss : ss = ⟨s.toArray⟩) (is : Bool) : FitF 1000000 33 cb (fun W => W.heap[cb]? = some (wayO ss is) ∧ G0 W) (fun c => fitsM true c s) := by
  refine ⟨fun _ _ => by kernel_rfl, fun W x hx hW => ?_, fun W W' hb h => ⟨keepB h.1 hb, h.2.later hb⟩⟩
  obtain ⟨hW, m, hm⟩ := hW
  obtain ⟨c0, c1⟩ := way_cells hW
  obtain ⟨sx, hsx⟩ : ∃ q : ByteArray, q = ⟨x.toArray⟩ := ⟨_, rfl⟩
  have q := Tryd.strings_Contains sx ss m W (by rw [hsx, str_of]; omega) hm
  have hp : fitsM true x s = Lib.contains sx.data.toList ss.data.toList := by rw [hsx, hss]; rfl
  rw [hp, show str x = .string sx from lit_of hsx]
  have Q := Lib.hid q
  clear hsx hss hx hp q hW hm
  go_enter Tryd.func33, Tryd.ntmps33
  go_wp2_with ((with_reducible refine Q.out.mono ?_); rintro e w' ⟨rfl, rfl⟩)
  go_ret
  exact ⟨rfl, Below.refl _ _⟩
set_option maxHeartbeats 12800000 in
set_option maxRecDepth 100000 in
theorem HistWays_walk (w : World) (A : Option Addr) (c : Nat) (l : List EntT) (hi : In15 w A l) (sc ss : ByteArray) (is : Bool) (hg : G0 w) :
    Calls Tryd.prog 9 #[.slice A l.length c, .string sc, .agg #[.string ss, .bool is]] w fun x w' => x = .returned (.bool true) ∧ Below w.heap.size w w' := by
  have hfew := fun (W : World) (h : Below w.heap.size w W) => few15_calls W A c l (hi.rd.later h) (fun a ha hn => Nat.lt_of_lt_of_le (hi.blk a ha hn) h.size) hi.len hi.keys
  obtain ⟨W0, hev, hv, b0⟩ : ∃ W', w.alloc (.cells #[.string ss, .bool is] 59) = W' ∧ W'.heap[w.heap.size]? = some (wayO ss is) ∧ Below w.heap.size w W' := ⟨_, rfl, heap_alloc_new w _, (Below.refl _ w).alloc (Nat.le_refl _) _⟩
  obtain ⟨q0, q1⟩ := way_cells hv
  obtain ⟨b, hb⟩ : ∃ b, b = fewE l := ⟨_, rfl⟩
  rw [← hb] at hfew
  have HI := Lib.hid hi
  have HEV := Lib.hid hev
  have HV := Lib.hid hv
  have HB0 := Lib.hid b0
  have HFW := Lib.hid hfew
  have HG := Lib.hid hg
  clear hi hev hv b0 hfew hg
  cases b with
  | false =>
    clear hb
    go_enter Tryd.func9, Tryd.ntmps9
    go_wp2_with fail
    rw [HEV.out]
    refine (HFW.out W0 HB0.out).mono ?_
    rintro e w1 ⟨rfl, b1⟩
    have B1 := HB0.out.trans (b1.mono HB0.out.size)
    go_wp2_with fail
    refine (al15_calls w1 (HI.out.u8.later B1)).mono ?_
    rintro e w2 ⟨rfl, b2⟩
    go_wp2
    go_ret
    exact ⟨rfl, B1.trans (b2.mono B1.size)⟩
  | true =>
    have HF := Lib.hid hb.symm
    clear hb
    by_cases hbig : 1000 < sc.size
    · have i1 : (1000 : Int) < (sc.size : Int) := by omega
      go_enter Tryd.func9, Tryd.ntmps9
      go_wp2_with fail
      rw [HEV.out]
      refine (HFW.out W0 HB0.out).mono ?_
      rintro e w1 ⟨rfl, b1⟩
      have B1 := HB0.out.trans (b1.mono HB0.out.size)
      go_wp2_with fail
      refine (al15_calls w1 (HI.out.u8.later B1)).mono ?_
      rintro e w2 ⟨rfl, b2⟩
      go_wp2
      go_ret
      exact ⟨rfl, B1.trans (b2.mono B1.size)⟩
    have i1 : ¬ ((1000 : Int) < (sc.size : Int)) := by omega
    have i1' : (sc.size : Int) ≤ 1000 := by omega
    by_cases hbig2 : 1000 < ss.size
    · have i2 : (1000 : Int) < (ss.size : Int) := by omega
      clear hbig hbig2
      go_enter Tryd.func9, Tryd.ntmps9
      go_wp2_with fail
      rw [HEV.out]
      refine (HFW.out W0 HB0.out).mono ?_
      rintro e w1 ⟨rfl, b1⟩
      have hv1 := keepB HV.out b1
      clear q0 q1
      obtain ⟨q0, q1⟩ := way_cells hv1
      have B1 := HB0.out.trans (b1.mono HB0.out.size)
      go_wp2_with fail
      refine (al15_calls w1 (HI.out.u8.later B1)).mono ?_
      rintro e w2 ⟨rfl, b2⟩
      go_wp2
      go_ret
      exact ⟨rfl, B1.trans (b2.mono B1.size)⟩
    have i2 : ¬ ((1000 : Int) < (ss.size : Int)) := by omega
    have i2' : (ss.size : Int) ≤ 1000 := by omega
    have hl120 := (few_small HF.out).1
    obtain ⟨cmd, hcmd⟩ : ∃ cmd : Bs, sc = ⟨cmd.toArray⟩ := ⟨sc.data.toList, by cases sc; simp⟩
    obtain ⟨s, hs⟩ : ∃ s : Bs, ss = ⟨s.toArray⟩ := ⟨ss.data.toList, by cases ss; simp⟩
    have hsl : s.length ≤ 1000 := by have : ss.size = s.length := by rw [hs, str_of]
                                     omega
    have HCMD := Lib.hid hcmd
    have HS := Lib.hid hs
    clear hcmd hs hbig hbig2
    go_enter Tryd.func9, Tryd.ntmps9
    go_wp2_with fail
    rw [HEV.out]
    refine (HFW.out W0 HB0.out).mono ?_
    rintro y w1 ⟨rfl, b1⟩
    have HV1 := Lib.hid (keepB HV.out b1)
    have HB1 := Lib.hid (HB0.out.trans (b1.mono HB0.out.size))
    clear q0 q1
    obtain ⟨q0, q1⟩ := way_cells HV1.out
    clear b1
    go_wp2_with fail
    refine (New12_calls w1 A c l (HI.out.rd.later HB1.out) (by omega)).mono ?_
    rintro y w2 ⟨A2, c2, rfl, hr2, b2⟩
    have HV2 := Lib.hid (keepB HV1.out b2)
    have HB2 := Lib.hid (HB1.out.trans (b2.mono HB1.out.size))
    have Q := Lib.hid (OfNew HI.out.u8 HF.out HB2.out (c1 := c2) hr2.rdS.1)
    clear b2 hr2 q0 q1
    go_wp2_with fail
    refine Q.out.mono ?_
    rintro y w3 ⟨hb, rfl, hg3, b3⟩
    have hlen := of_len100 HF.out
    have HSM := Lib.hid (SmallE.of (few_smallE HF.out))
    have HG3 := Lib.hid hg3
    have HV3 := Lib.hid (keepB HV2.out b3)
    have HB3 := Lib.hid (HB2.out.trans (b3.mono HB2.out.size))
    have q := rOf15_calls w3 (HI.out.u8.later HB3.out) A c l (HI.out.rd.later HB3.out) (by omega) (few_smallE HF.out)
    obtain ⟨L, hL⟩ : ∃ L, L = ofL l := ⟨_, rfl⟩
    rw [← hL] at hlen HG3 q HSM
    have Q3 := Lib.hid q
    clear hL hg3 b3 q
    go_wp2_with fail
    refine Q3.out.mono ?_
    rintro y w4 ⟨A4, c4, rfl, hr4, b4⟩
    have HG4 := Lib.hid (HG3.out.later b4)
    have HV4 := Lib.hid (keepB HV3.out b4)
    have HB4 := Lib.hid (HB3.out.trans (b4.mono HB3.out.size))
    have HR4 := Lib.hid hr4.rdS.1
    clear b4 hr4
    have hmf : ∀ (fn : Fn) (first cap : Array Value) (w : World), (Instr.makeFunc fn first cap).run Tryd.prog w = .ok (.func fn first cap) w := fun _ _ _ _ => rfl
    go_wp2
    obtain ⟨W5, hW5⟩ : ∃ W, (w4.alloc (.cells #[fnV 31 w.heap.size, fnV 33 w.heap.size] 61)) = W := ⟨_, rfl⟩
    have b45 : Below w4.heap.size w4 W5 := by rw [← hW5]; exact (Below.refl _ _).alloc (Nat.le_refl _) _
    have hf5 : W5.heap[w4.heap.size]? = some (.cells #[fnV 31 w.heap.size, fnV 33 w.heap.size] 61 (0, 0)) := by rw [← hW5]; exact heap_alloc_new w4 _
    rw [hW5]
    have HGx := Lib.hid (HG4.out.later b45)
    have HVx := Lib.hid (keepB HV4.out b45)
    have HFx := Lib.hid hf5
    have HRx := Lib.hid (HR4.out.later b45)
    have HBx := Lib.hid (HB4.out.trans (b45.mono HB4.out.size))
    clear hW5 b45 hf5
    go_loopw [49] (fun u49 wr => ∃ k : Nat, u49 = n64 k ∧ k ≤ 2 ∧ Hid (Hg w2.heap.size wr hb L) ∧ Hid (wr.heap[w.heap.size]? = some (wayO ss is)) ∧ Hid (wr.heap[w4.heap.size]? = some (.cells #[fnV 31 w.heap.size, fnV 33 w.heap.size] 61 (0, 0))) ∧ Hid (Rd wr A4 (flatE L)) ∧ Hid (Below w.heap.size w wr)) (fun u49 _ => (2 - intOf u49).toNat)
    case atStart => exact ⟨0, rfl, Nat.zero_le _, HGx, HVx, HFx, HRx, HBx⟩
    case round =>
      obtain ⟨k, rfl, hk, HGhr, HVhr, HFhr, HRhr, HBhr⟩ := hrel
      cases k with
      | zero =>
        rw [show n64 0 = Value.int .i64 0 from rfl]
        have FG : ∀ W, Below w.heap.size w W → W.heap[w.heap.size]? = some (wayO ss is) → FitG 1000000 (fnV 31 w.heap.size) (fun c => fitsM false c s) W := fun W h1 h2 => fitG_fn (fitF1 w.heap.size s ss HS.out (by omega) is) h2
        have qa := fun (W : World) (h : Hg w2.heap.size W hb L) (hF : FitG 1000000 (fnV 31 w.heap.size) (fun c => fitsM false c s) W) => HgOlder_calls W h (by omega) HSM.out cmd sc HCMD.out is _ _ hF
        have qb := fun (W : World) (h : Rd W A4 (flatE L)) => rOlder_calls W A4 c4 L h (by omega) HSM.out cmd sc HCMD.out is s ss HS.out (by omega) false
        have qc := fun (W : World) (h : Hg w2.heap.size W hb L) (hF : FitG 1000000 (fnV 31 w.heap.size) (fun c => fitsM false c s) W) => HgNewer_calls W h (by omega) HSM.out cmd sc HCMD.out _ _ hF
        have qd := fun (W : World) (h : Rd W A4 (flatE L)) => rNewer_calls W A4 c4 L h (by omega) HSM.out cmd sc HCMD.out s ss HS.out (by omega) false
        rw [show modeI false = 0 from rfl] at qb qd
        obtain ⟨R1, hR1⟩ : ∃ R, R = fitL (fun c => fitsM false c s) (olderL (cmdsE L) cmd is) := ⟨_, rfl⟩
        rw [← hR1] at qa qb
        obtain ⟨s1, hs1⟩ : ∃ q : ByteArray, q = ⟨R1.1.toArray⟩ := ⟨_, rfl⟩
        obtain ⟨b1, hb1⟩ : ∃ q : Bool, q = R1.2 := ⟨_, rfl⟩
        rw [show str R1.1 = .string s1 from lit_of hs1, ← hb1] at qa qb
        clear hR1 hs1 hb1
        obtain ⟨R2, hR2⟩ : ∃ R, R = fitL (fun c => fitsM false c s) (newerL (cmdsE L) cmd) := ⟨_, rfl⟩
        rw [← hR2] at qc qd
        obtain ⟨s2, hs2⟩ : ∃ q : ByteArray, q = ⟨R2.1.toArray⟩ := ⟨_, rfl⟩
        obtain ⟨b2, hb2⟩ : ∃ q : Bool, q = R2.2 := ⟨_, rfl⟩
        rw [show str R2.1 = .string s2 from lit_of hs2, ← hb2] at qc qd
        clear hR2 hs2 hb2
        have QA := Lib.hid qa
        have QB := Lib.hid qb
        have QC := Lib.hid qc
        have QD := Lib.hid qd
        have HFG := Lib.hid FG
        clear qa qb qc qd FG
        obtain ⟨q0, q1⟩ := way_cells HVhr.out
        obtain ⟨f0, f1, _, _⟩ := hi_cells HFhr.out
        go_wp2_with fail
        refine (QA.out wr HGhr.out (HFG.out wr HBhr.out HVhr.out)).mono ?_
        rintro y w5 ⟨rfl, b5⟩
        have HGh5 := Lib.hid (HGhr.out.later b5)
        have HVh5 := Lib.hid (keepB HVhr.out b5)
        have HFh5 := Lib.hid (keepB HFhr.out b5)
        have HRh5 := Lib.hid (HRhr.out.later b5)
        have HBh5 := Lib.hid (HBhr.out.trans (b5.mono HBhr.out.size))
        clear b5
        clear q0 q1 f0 f1
        obtain ⟨q0, q1⟩ := way_cells HVh5.out
        go_wp2_with fail
        refine (QB.out w5 HRh5.out).mono ?_
        rintro y w6 ⟨rfl, b6⟩
        have HGh6 := Lib.hid (HGh5.out.later b6)
        have HVh6 := Lib.hid (keepB HVh5.out b6)
        have HFh6 := Lib.hid (keepB HFh5.out b6)
        have HRh6 := Lib.hid (HRh5.out.later b6)
        have HBh6 := Lib.hid (HBh5.out.trans (b6.mono HBh5.out.size))
        clear b6
        clear q0 q1
        obtain ⟨q0, q1⟩ := way_cells HVh6.out
        go_wp2_with fail
        refine (QC.out w6 HGh6.out (HFG.out w6 HBh6.out HVh6.out)).mono ?_
        rintro y w7 ⟨rfl, b7⟩
        have HGh7 := Lib.hid (HGh6.out.later b7)
        have HVh7 := Lib.hid (keepB HVh6.out b7)
        have HFh7 := Lib.hid (keepB HFh6.out b7)
        have HRh7 := Lib.hid (HRh6.out.later b7)
        have HBh7 := Lib.hid (HBh6.out.trans (b7.mono HBh6.out.size))
        clear b7
        clear q0 q1
        obtain ⟨q0, q1⟩ := way_cells HVh7.out
        go_wp2_with fail
        refine (QD.out w7 HRh7.out).mono ?_
        rintro y w8 ⟨rfl, b8⟩
        have HGh8 := Lib.hid (HGh7.out.later b8)
        have HVh8 := Lib.hid (keepB HVh7.out b8)
        have HFh8 := Lib.hid (keepB HFh7.out b8)
        have HRh8 := Lib.hid (HRh7.out.later b8)
        have HBh8 := Lib.hid (HBh7.out.trans (b8.mono HBh7.out.size))
        clear b8
        clear q0 q1
        go_wp2
        go_roundw
        case rel => exact ⟨1, by go_num, by omega, HGh8, HVh8, HFh8, HRh8, HBh8⟩
        case measure => simp [intOf]
      | succ k =>
        cases k with
        | zero =>
          rw [show n64 (0 + 1) = Value.int .i64 1 from rfl]
          have FG : ∀ W, Below w.heap.size w W → W.heap[w.heap.size]? = some (wayO ss is) → FitG 1000000 (fnV 33 w.heap.size) (fun c => fitsM true c s) W := fun W h1 h2 => fitG_fn (fitF2 w.heap.size s ss HS.out is) ⟨h2, HG.out.later h1⟩
          have qa := fun (W : World) (h : Hg w2.heap.size W hb L) (hF : FitG 1000000 (fnV 33 w.heap.size) (fun c => fitsM true c s) W) => HgOlder_calls W h (by omega) HSM.out cmd sc HCMD.out is _ _ hF
          have qb := fun (W : World) (h : Rd W A4 (flatE L)) => rOlder_calls W A4 c4 L h (by omega) HSM.out cmd sc HCMD.out is s ss HS.out (by omega) true
          have qc := fun (W : World) (h : Hg w2.heap.size W hb L) (hF : FitG 1000000 (fnV 33 w.heap.size) (fun c => fitsM true c s) W) => HgNewer_calls W h (by omega) HSM.out cmd sc HCMD.out _ _ hF
          have qd := fun (W : World) (h : Rd W A4 (flatE L)) => rNewer_calls W A4 c4 L h (by omega) HSM.out cmd sc HCMD.out s ss HS.out (by omega) true
          rw [show modeI true = 1 from rfl] at qb qd
          obtain ⟨R1, hR1⟩ : ∃ R, R = fitL (fun c => fitsM true c s) (olderL (cmdsE L) cmd is) := ⟨_, rfl⟩
          rw [← hR1] at qa qb
          obtain ⟨s1, hs1⟩ : ∃ q : ByteArray, q = ⟨R1.1.toArray⟩ := ⟨_, rfl⟩
          obtain ⟨b1, hb1⟩ : ∃ q : Bool, q = R1.2 := ⟨_, rfl⟩
          rw [show str R1.1 = .string s1 from lit_of hs1, ← hb1] at qa qb
          clear hR1 hs1 hb1
          obtain ⟨R2, hR2⟩ : ∃ R, R = fitL (fun c => fitsM true c s) (newerL (cmdsE L) cmd) := ⟨_, rfl⟩
          rw [← hR2] at qc qd
          obtain ⟨s2, hs2⟩ : ∃ q : ByteArray, q = ⟨R2.1.toArray⟩ := ⟨_, rfl⟩
          obtain ⟨b2, hb2⟩ : ∃ q : Bool, q = R2.2 := ⟨_, rfl⟩
          rw [show str R2.1 = .string s2 from lit_of hs2, ← hb2] at qc qd
          clear hR2 hs2 hb2
          have QA := Lib.hid qa
          have QB := Lib.hid qb
          have QC := Lib.hid qc
          have QD := Lib.hid qd
          have HFG := Lib.hid FG
          clear qa qb qc qd FG
          obtain ⟨q0, q1⟩ := way_cells HVhr.out
          obtain ⟨f0, f1, _, _⟩ := hi_cells HFhr.out
          go_wp2_with fail
          refine (QA.out wr HGhr.out (HFG.out wr HBhr.out HVhr.out)).mono ?_
          rintro y w5 ⟨rfl, b5⟩
          have HGh5 := Lib.hid (HGhr.out.later b5)
          have HVh5 := Lib.hid (keepB HVhr.out b5)
          have HFh5 := Lib.hid (keepB HFhr.out b5)
          have HRh5 := Lib.hid (HRhr.out.later b5)
          have HBh5 := Lib.hid (HBhr.out.trans (b5.mono HBhr.out.size))
          clear b5
          clear q0 q1 f0 f1
          obtain ⟨q0, q1⟩ := way_cells HVh5.out
          go_wp2_with fail
          refine (QB.out w5 HRh5.out).mono ?_
          rintro y w6 ⟨rfl, b6⟩
          have HGh6 := Lib.hid (HGh5.out.later b6)
          have HVh6 := Lib.hid (keepB HVh5.out b6)
          have HFh6 := Lib.hid (keepB HFh5.out b6)
          have HRh6 := Lib.hid (HRh5.out.later b6)
          have HBh6 := Lib.hid (HBh5.out.trans (b6.mono HBh5.out.size))
          clear b6
          clear q0 q1
          obtain ⟨q0, q1⟩ := way_cells HVh6.out
          go_wp2_with fail
          refine (QC.out w6 HGh6.out (HFG.out w6 HBh6.out HVh6.out)).mono ?_
          rintro y w7 ⟨rfl, b7⟩
          have HGh7 := Lib.hid (HGh6.out.later b7)
          have HVh7 := Lib.hid (keepB HVh6.out b7)
          have HFh7 := Lib.hid (keepB HFh6.out b7)
          have HRh7 := Lib.hid (HRh6.out.later b7)
          have HBh7 := Lib.hid (HBh6.out.trans (b7.mono HBh6.out.size))
          clear b7
          clear q0 q1
          obtain ⟨q0, q1⟩ := way_cells HVh7.out
          go_wp2_with fail
          refine (QD.out w7 HRh7.out).mono ?_
          rintro y w8 ⟨rfl, b8⟩
          have HGh8 := Lib.hid (HGh7.out.later b8)
          have HVh8 := Lib.hid (keepB HVh7.out b8)
          have HFh8 := Lib.hid (keepB HFh7.out b8)
          have HRh8 := Lib.hid (HRh7.out.later b8)
          have HBh8 := Lib.hid (HBh7.out.trans (b8.mono HBh7.out.size))
          clear b8
          clear q0 q1
          go_wp2
          go_roundw
          case rel => exact ⟨2, by go_num, by omega, HGh8, HVh8, HFh8, HRh8, HBh8⟩
          case measure => simp [intOf]
        | succ k =>
          obtain rfl : k = 0 := by omega
          rw [show n64 (0 + 1 + 1) = Value.int .i64 2 from rfl]
          have q1' := HgOlder_calls wr HGhr.out (by omega) HSM.out cmd sc HCMD.out is .nilFunc _ (fitG_nil _ _)
          have q2' := fun (W : World) (h : Rd W A4 (flatE L)) => rOlder_calls W A4 c4 L h (by omega) HSM.out cmd sc HCMD.out is [] ⟨#[]⟩ rfl (by simp) false
          have hpt : (fun c => fitsM false c []) = (fun _ => true) := by
            funext c
            show decide (([] : Bs) <+: c) = true
            exact decide_eq_true (List.nil_prefix)
          rw [hpt, show modeI false = 0 from rfl] at q2'
          obtain ⟨R1, hR1⟩ : ∃ R, R = fitL (fun _ => true) (olderL (cmdsE L) cmd is) := ⟨_, rfl⟩
          rw [← hR1] at q1' q2'
          obtain ⟨s1, hs1⟩ : ∃ q : ByteArray, q = ⟨R1.1.toArray⟩ := ⟨_, rfl⟩
          obtain ⟨b1, hb1⟩ : ∃ q : Bool, q = R1.2 := ⟨_, rfl⟩
          rw [show str R1.1 = .string s1 from lit_of hs1, ← hb1] at q1' q2'
          have QA := Lib.hid q1'
          have QB := Lib.hid q2'
          clear q1' q2' hpt hR1 hs1 hb1
          obtain ⟨q0, q1⟩ := way_cells HVhr.out
          go_wp2_with fail
          refine QA.out.mono ?_
          rintro y w5 ⟨rfl, b5⟩
          have HGh5 := Lib.hid (HGhr.out.later b5)
          have HVh5 := Lib.hid (keepB HVhr.out b5)
          have HFh5 := Lib.hid (keepB HFhr.out b5)
          have HRh5 := Lib.hid (HRhr.out.later b5)
          have HBh5 := Lib.hid (HBhr.out.trans (b5.mono HBhr.out.size))
          clear b5
          clear q0 q1
          obtain ⟨q0, q1⟩ := way_cells HVh5.out
          go_wp2_with fail
          refine (QB.out w5 HRh5.out).mono ?_
          rintro y w6 ⟨rfl, b6⟩
          have HGh6 := Lib.hid (HGh5.out.later b6)
          have HVh6 := Lib.hid (keepB HVh5.out b6)
          have HFh6 := Lib.hid (keepB HFh5.out b6)
          have HRh6 := Lib.hid (HRh5.out.later b6)
          have HBh6 := Lib.hid (HBh5.out.trans (b6.mono HBh5.out.size))
          clear b6
          clear q0 q1
          go_wp2_with fail
          refine (al15_calls w6 (HI.out.u8.later HBh6.out)).mono ?_
          rintro y w7 ⟨rfl, b7⟩
          go_wp2
          go_ret
          exact ⟨rfl, HBh6.out.trans (b7.mono HBh6.out.size)⟩
end Go.Proofs.YtpemjhghiccngaaDoor
