import Derived.Test.YtpemjhghiccngaaDoorHs28
namespace Go.Proofs.YtpemjhghiccngaaDoor
set_option linter.unusedVariables false
set_option linter.unusedSimpArgs false
open Go.RowKit Go.Shelf
/-! HistTurns. -/
abbrev fst1 (l : List Bs) : Bs × Bool := fitL (fun _ => true) l
theorem fst1_nil : fst1 [] = ([], false) := rfl
theorem fst1_cons (x : Bs) (l : List Bs) : fst1 (x :: l) = (x, true) := by simp [fst1, fitL]
theorem older_at {C : List Bs} (hn : C.Nodup) {k : Nat} {x : Bs} (hx : C[k]? = some x) : olderL C x true = C.drop (k + 1) := by
  obtain ⟨hk, e⟩ := List.getElem?_eq_some_iff.1 hx
  unfold olderL
  rw [if_pos ⟨rfl, List.mem_of_getElem? hx⟩, ← e, List.Nodup.idxOf_getElem hn]
theorem newer_at {C : List Bs} (hn : C.Nodup) {k : Nat} {x : Bs} (hx : C[k]? = some x) : newerL C x = (C.take k).reverse := by
  obtain ⟨hk, e⟩ := List.getElem?_eq_some_iff.1 hx
  unfold newerL
  rw [if_pos (List.mem_of_getElem? hx), ← e, List.Nodup.idxOf_getElem hn]
theorem newer_fst {C : List Bs} (hn : C.Nodup) {k : Nat} {x y : Bs} (hx : C[k + 1]? = some x) (hy : C[k]? = some y) : fst1 (newerL C x) = (y, true) := by
  rw [newer_at hn hx, List.take_add_one, hy]
  simp [fst1_cons]
set_option maxHeartbeats 6400000 in
set_option maxRecDepth 100000 in
theorem HistTurns_walk (w : World) (A : Option Addr) (c : Nat) (l : List EntT) (hi : In15 w A l) :
    Calls Tryd.prog 6 #[.slice A l.length c] w fun e w' => e = .returned (.bool true) ∧ Below w.heap.size w w' := by
  have HI := Lib.hid hi
  have hfew := Lib.hid (few15_calls w A c l hi.rd hi.blk hi.len hi.keys)
  clear hi
  obtain ⟨b, hb⟩ : ∃ b, b = fewE l := ⟨_, rfl⟩
  rw [← hb] at hfew
  cases b with
  | false =>
    clear hb
    go_enter Tryd.func6, Tryd.ntmps6
    go_wp2_with fail
    refine hfew.out.mono ?_
    rintro e w1 ⟨rfl, b1⟩
    go_wp2_with fail
    refine (al15_calls w1 (HI.out.u8.later b1)).mono ?_
    rintro e w2 ⟨rfl, b2⟩
    go_wp2
    go_ret
    exact ⟨rfl, b1.trans (b2.mono b1.size)⟩
  | true =>
    have HF := Lib.hid hb.symm
    clear hb
    go_enter Tryd.func6, Tryd.ntmps6
    go_wp2_with fail
    refine hfew.out.mono ?_
    rintro e w1 ⟨rfl, b1⟩
    go_wp2_with fail
    refine (New12_calls w1 A c l (HI.out.rd.later b1) (by have := (few_small HF.out).1; omega)).mono ?_
    rintro e w2 ⟨A2, c2, rfl, hr2, b2⟩
    have B2 := b1.trans (b2.mono b1.size)
    have q := OfNew HI.out.u8 HF.out B2 (c1 := c2) hr2.rdS.1
    have HB2 := Lib.hid B2
    have Q := Lib.hid q
    clear hr2 b1 b2 B2 q
    go_wp2_with fail
    refine Q.out.mono ?_
    rintro e w3 ⟨hb, rfl, hg3, b3⟩
    have hlen := of_len100 HF.out
    have HG3 := Lib.hid hg3
    have HB3 := Lib.hid (HB2.out.trans (b3.mono HB2.out.size))
    have HSM := Lib.hid (SmallE.of (few_smallE HF.out))
    obtain ⟨L, hL⟩ : ∃ L, L = ofL l := ⟨_, rfl⟩
    rw [← hL] at hlen HG3 HSM
    clear hL hg3 b3
    go_wp2_with fail
    refine (HgCmds_calls w3 HG3.out (by omega)).mono ?_
    rintro e w4 ⟨A4, c4, rfl, hr4, b4⟩
    have HG4 := Lib.hid (HG3.out.later b4)
    have HB4 := Lib.hid (HB3.out.trans (b4.mono HB3.out.size))
    have HR4 := Lib.hid hr4.rdS.1
    have hnd := cmdsE_nodup L
    have hcl := cmdsE_len L
    clear b4 hr4
    have hold := fun (W : World) (h : Hg w2.heap.size W hb L) (cmd : Bs) (sc : ByteArray) (hs : sc = ⟨cmd.toArray⟩) (is : Bool) => HgOlder_calls W h (by omega) HSM.out cmd sc hs is .nilFunc _ (fitG_nil _ _)
    have hnew := fun (W : World) (h : Hg w2.heap.size W hb L) (cmd : Bs) (sc : ByteArray) (hs : sc = ⟨cmd.toArray⟩) => HgNewer_calls W h (by omega) HSM.out cmd sc hs .nilFunc _ (fitG_nil _ _)
    obtain ⟨C, hC⟩ : ∃ C, C = cmdsE L := ⟨_, rfl⟩
    rw [← hC] at hnd hcl HR4 hold hnew ⊢
    have HOLD := Lib.hid hold
    have HNEW := Lib.hid hnew
    have HND := Lib.hid hnd
    clear hC hold hnew hnd
    go_wp2_with fail
    refine (HOLD.out w4 HG4.out [] _ rfl false).mono ?_
    rintro e w5 ⟨rfl, b5⟩
    rw [show fitL (fun _ => true) (olderL C [] false) = fst1 (C.drop 0) by simp [olderL]]
    have HG5 := Lib.hid (HG4.out.later b5)
    have HB5 := Lib.hid (HB4.out.trans (b5.mono HB4.out.size))
    have HR5 := Lib.hid (HR4.out.later b5)
    clear b5
    go_wp2
    go_loopw [5, 6, 30] (fun u5 u6 u30 wr => ∃ k : Nat, u30 = n64 k ∧ k ≤ C.length ∧ u5 = str (fst1 (C.drop k)).1 ∧ u6 = .bool (fst1 (C.drop k)).2 ∧ Hid (Hg w2.heap.size wr hb L) ∧ Hid (Rd wr A4 (C.map str)) ∧ Hid (Below w.heap.size w wr)) (fun _ _ u30 _ => (C.length - intOf u30).toNat)
    case atStart => exact ⟨0, rfl, Nat.zero_le _, rfl, rfl, HG5, HR5, HB5⟩
    case round =>
      obtain ⟨k, rfl, hk, rfl, rfl, HG, HR, HB⟩ := hrel
      by_cases hlt : k < C.length
      · obtain ⟨x, hx⟩ : ∃ x, C[k]? = some x := ⟨_, List.getElem?_eq_getElem hlt⟩
        have hdr : C.drop k = x :: C.drop (k + 1) := by
          obtain ⟨h1, h2⟩ := List.getElem?_eq_some_iff.1 hx
          rw [List.drop_eq_getElem_cons h1, h2]
        rw [hdr, fst1_cons]
        obtain ⟨sx, hsx⟩ : ∃ s : ByteArray, s = ⟨x.toArray⟩ := ⟨_, rfl⟩
        rw [show str (x, true).1 = .string sx from lit_of hsx]
        obtain ⟨g, off, rfl, c0⟩ := HR.out k (str x) (by rw [List.getElem?_map, hx]; rfl)
        rw [lit_of hsx] at c0
        have q := HOLD.out wr HG.out x sx hsx true
        rw [older_at HND.out hx] at q
        have Q2 := Lib.hid q
        have b1 : (k : Int) < (C.length : Int) := by omega
        clear q hx hdr hsx
        go_wp2_with ((with_reducible refine Q2.out.mono ?_); rintro e w6 ⟨rfl, b6⟩)
        go_roundw
        case rel => exact ⟨k + 1, by go_num, by omega, rfl, rfl, Lib.hid (HG.out.later b6), Lib.hid (HR.out.later b6), Lib.hid (HB.out.trans (b6.mono HB.out.size))⟩
        case measure => simp [intOf]; omega
      · obtain rfl : k = C.length := by omega
        rw [List.drop_length, fst1_nil]
        obtain ⟨n, hn⟩ : ∃ n, n = C.length := ⟨_, rfl⟩
        have HN := Lib.hid hn
        rw [← hn] at hk hlt hcl ⊢
        clear hn
        have B2w := HB.out
        cases n with
        | zero =>
          go_wp2_with fail
          refine (al15_calls wr (HI.out.u8.later HB.out)).mono ?_
          rintro e w6 ⟨rfl, b6⟩
          go_wp2
          go_ret
          exact ⟨rfl, HB.out.trans (b6.mono HB.out.size)⟩
        | succ m =>
          have hm : m ≤ 200 := by omega
          obtain ⟨x, hx⟩ : ∃ x, C[m]? = some x := ⟨_, List.getElem?_eq_getElem (by have := HN.out; omega)⟩
          obtain ⟨sx, hsx⟩ : ∃ s : ByteArray, s = ⟨x.toArray⟩ := ⟨_, rfl⟩
          obtain ⟨g, off, rfl, c0⟩ := HR.out m (str x) (by rw [List.getElem?_map, hx]; rfl)
          rw [lit_of hsx] at c0
          have hw1 : IntKind.i64.wrap (((m : Int) + 1) - 1) = (m : Int) := by rw [Int.add_sub_cancel]; exact IntWalk.i64_in _ (by omega)
          have hw1' : IntKind.i64.wrap (m : Int) = (m : Int) := IntWalk.i64_in _ (by omega)
          have hw2 : IntKind.i64.wrap (((m : Int) + 1) - 2) = (m : Int) - 1 := by rw [IntWalk.i64_in _ (by omega)]; omega
          have b1 : decide ((m : Int) < (m : Int) + 1) = true := decide_eq_true (by omega)
          have b2 : (m : Int) < (m : Int) + 1 := by omega
          have b3 : ¬ ((m : Int) + 1 = 0) := by omega
          have HX := Lib.hid hx
          have HSX := Lib.hid hsx
          clear hx hsx B2w hlt hk hcl
          go_wp2
          go_loopw [5, 9] (fun u5 u9 wx => ∃ (k : Nat) (y : Bs) (sy : ByteArray), u9 = .int .i64 ((k : Int) - 1) ∧ k ≤ m ∧ u5 = .string sy ∧ Hid (sy = ⟨y.toArray⟩) ∧ Hid (C[k]? = some y) ∧ Hid (Hg w2.heap.size wx hb L) ∧ Hid (Rd wx (some ⟨g, off, none⟩) (C.map str)) ∧ Hid (Below w.heap.size w wx)) (fun _ u9 _ => (intOf u9 + 1).toNat)
          case atStart => exact ⟨m, x, sx, rfl, Nat.le_refl _, rfl, HSX, HX, HG, HR, HB⟩
          case round =>
            obtain ⟨k, y, sy, rfl, hk, rfl, HSY, HY, HG2, HR2, HB2⟩ := hrel
            clear c0
            cases k with
            | zero =>
              have q := HNEW.out wr HG2.out y sy HSY.out
              rw [newer_at HND.out HY.out, List.take_zero, List.reverse_nil, show fitL (fun _ => true) ([] : List Bs) = ([], false) from rfl] at q
              have Q2 := Lib.hid q
              clear q
              go_wp2_with fail
              refine Q2.out.mono ?_
              rintro e w6 ⟨rfl, b6⟩
              go_wp2_with fail
              refine (al15_calls w6 (HI.out.u8.later (HB2.out.trans (b6.mono HB2.out.size)))).mono ?_
              rintro e w7 ⟨rfl, b7⟩
              go_wp2
              go_ret
              have B6 := HB2.out.trans (b6.mono HB2.out.size)
              exact ⟨rfl, B6.trans (b7.mono B6.size)⟩
            | succ k =>
              obtain ⟨z, hz⟩ : ∃ z, C[k]? = some z := ⟨_, List.getElem?_eq_getElem (by have := HN.out; omega)⟩
              obtain ⟨sz, hsz⟩ : ∃ s : ByteArray, s = ⟨z.toArray⟩ := ⟨_, rfl⟩
              have q := HNEW.out wr HG2.out y sy HSY.out
              have e9 : fitL (fun _ => true) (newerL C y) = (z, true) := newer_fst HND.out HY.out hz
              rw [e9, show str (z, true).1 = .string sz from lit_of hsz] at q
              have Q2 := Lib.hid q
              have hce : ∀ W, Rd W (some ⟨g, off, none⟩) (C.map str) → W.cell? ⟨g, off + k, none⟩ = some (.string sz) := fun W h => by
                obtain ⟨g', o', e, c⟩ := h k (str z) (by rw [List.getElem?_map, hz]; rfl)
                rw [lit_of hsz] at c
                injection e with e; injection e with x y; subst x; subst y
                exact c
              have HCE := Lib.hid hce
              have HZ := Lib.hid hz
              have HSZ := Lib.hid hsz
              have hk1 : (((k + 1 : Nat) : Int) - 1) = (k : Int) := by omega
              rw [hk1]
              have b9 : (k : Int) < (m : Int) + 1 := by omega
              have hwk : IntKind.i64.wrap ((k : Int) - 1) = (k : Int) - 1 := IntWalk.i64_in _ (by omega)
              clear q hz hsz hce hk1
              go_wp2_with fail
              refine Q2.out.mono ?_
              rintro e w6 ⟨rfl, b6⟩
              have c6 := HCE.out w6 (HR2.out.later b6)
              go_wp2
              go_roundw
              case rel => exact ⟨_, _, _, _, _, _, _, _, _, _, _, _, _, _, _, _, _, _, _, _, _, _, _, _, ⟨k, z, sz, rfl, by omega, rfl, HSZ, HZ, Lib.hid (HG2.out.later b6), Lib.hid (HR2.out.later b6), Lib.hid (HB2.out.trans (b6.mono HB2.out.size))⟩, rfl⟩
              case measure => simp [intOf]
end Go.Proofs.YtpemjhghiccngaaDoor
