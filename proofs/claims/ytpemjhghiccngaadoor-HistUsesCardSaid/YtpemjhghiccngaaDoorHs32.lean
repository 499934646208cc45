import Derived.Test.YtpemjhghiccngaaDoorHs28
import Derived.BigQuiet
namespace Go.Proofs.YtpemjhghiccngaaDoor
set_option linter.unusedVariables false
set_option linter.unusedSimpArgs false
open Go.RowKit Go.Shelf
/-! HistUses. -/
theorem flatU_at {l : List EntT} {j : Nat} {e : EntT} (h : l[j]? = some e) : (flatU l)[j * 2]? = some (.int .i64 e.t) ∧ (flatU l)[j * 2 + 1]? = some (str e.d) := by
  induction l generalizing j with
  | nil => simp at h
  | cons x l ih =>
    have e0 : flatU (x :: l) = .int .i64 x.t :: str x.d :: flatU l := rfl
    cases j with
    | zero =>
      simp at h
      subst h
      exact ⟨rfl, rfl⟩
    | succ j =>
      have := ih (j := j) (by simpa using h)
      rw [e0, show (j + 1) * 2 = j * 2 + 1 + 1 by omega, show (j * 2 + 1 + 1) + 1 = (j * 2 + 1) + 1 + 1 by omega]
      simpa using this
theorem RdU.at {w : World} {A : Option Addr} {l : List EntT} (h : Rd w A (flatU l)) {j : Nat} {e : EntT} (he : l[j]? = some e) :
    ∃ g off, A = some ⟨g, off, none⟩ ∧ w.cell? ⟨g, off + j * 2, none⟩ = some (.int .i64 e.t) ∧ w.cell? ⟨g, off + j * 2 + 1, none⟩ = some (str e.d) := by
  obtain ⟨a, b⟩ := flatU_at he
  obtain ⟨g, off, rfl, h1⟩ := h _ _ a
  obtain ⟨g2, off2, e2, h2⟩ := h _ _ b
  injection e2 with e2; injection e2 with x y
  subst x; subst y
  exact ⟨g, off, rfl, h1, by rwa [Nat.add_assoc]⟩
set_option maxHeartbeats 6400000 in
set_option maxRecDepth 100000 in
theorem HistUses_walk (w : World) (A : Option Addr) (c : Nat) (l : List EntT) (hi : In15 w A l) (s : ByteArray) :
    Calls Tryd.prog 4 #[.slice A l.length c, .string s] w fun e w' => e = .returned (.bool true) ∧ Below w.heap.size w w' := by
  have HI := Lib.hid hi
  have hfew := Lib.hid (few15_calls w A c l hi.rd hi.blk hi.len hi.keys)
  clear hi
  obtain ⟨b, hb⟩ : ∃ b, b = fewE l := ⟨_, rfl⟩
  rw [← hb] at hfew
  cases b with
  | false =>
    clear hb
    go_enter Tryd.func4, Tryd.ntmps4
    go_wp2_with fail
    refine hfew.out.mono ?_
    rintro e w1 ⟨rfl, b1⟩
    go_wp2_with fail
    refine (al15_calls w1 (HI.out.u8.later b1)).mono ?_
    rintro e w2 ⟨rfl, b2⟩
    go_wp2
    go_ret
    exact ⟨rfl, b1.trans (b2.mono b1.size)⟩
  | true =>
    have HF := Lib.hid hb.symm
    clear hb
    by_cases hbig : 1000 < s.size
    · have i1 : (1000 : Int) < (s.size : Int) := by omega
      go_enter Tryd.func4, Tryd.ntmps4
      go_wp2_with fail
      refine hfew.out.mono ?_
      rintro e w1 ⟨rfl, b1⟩
      go_wp2_with fail
      refine (al15_calls w1 (HI.out.u8.later b1)).mono ?_
      rintro e w2 ⟨rfl, b2⟩
      go_wp2
      go_ret
      exact ⟨rfl, b1.trans (b2.mono b1.size)⟩
    have i1 : (s.size : Int) ≤ 1000 := by omega
    have i2 : ¬ ((1000 : Int) < (s.size : Int)) := by omega
    obtain ⟨cmd, hcmd⟩ : ∃ cmd : Bs, s = ⟨cmd.toArray⟩ := ⟨s.data.toList, by cases s; simp⟩
    have HCMD := Lib.hid hcmd
    clear hcmd hbig
    go_enter Tryd.func4, Tryd.ntmps4
    go_wp2_with fail
    refine hfew.out.mono ?_
    rintro e w1 ⟨rfl, b1⟩
    go_wp2_with fail
    refine (New12_calls w1 A c l (HI.out.rd.later b1) (by have := (few_small HF.out).1; omega)).mono ?_
    rintro e w2 ⟨A2, c2, rfl, hr2, b2⟩
    have B2 := b1.trans (b2.mono b1.size)
    have q := OfNew HI.out.u8 HF.out B2 (c1 := c2) hr2.rdS.1
    have HB2 := Lib.hid B2
    have Q := Lib.hid q
    clear hr2 b1 b2 B2 q
    go_wp2_with fail
    refine Q.out.mono ?_
    rintro e w3 ⟨hb, rfl, hg3, b3⟩
    have hlen := of_len100 HF.out
    have HG3 := Lib.hid hg3
    have HB3 := Lib.hid (HB2.out.trans (b3.mono HB2.out.size))
    have HFN := Lib.hid (Fine.of l)
    have hrof := fun (W : World) (h : Below w.heap.size w W) => rOf15_calls W (HI.out.u8.later h) A c l (HI.out.rd.later h) (by have := (few_small HF.out).1; omega) (few_smallE HF.out)
    obtain ⟨L, hL⟩ : ∃ L, L = ofL l := ⟨_, rfl⟩
    rw [← hL] at hlen HG3 HFN hrof
    have HROF := Lib.hid hrof
    clear hL hg3 b3 hrof
    go_wp2_with fail
    refine (HgCmds_calls w3 HG3.out (by omega)).mono ?_
    rintro e w4 ⟨A4, c4, rfl, hr4, b4⟩
    have HG4 := Lib.hid (HG3.out.later b4)
    have HB4 := Lib.hid (HB3.out.trans (b4.mono HB3.out.size))
    have hcl := cmdsE_len L
    obtain ⟨C, hC⟩ : ∃ C, C = cmdsE L := ⟨_, rfl⟩
    rw [← hC] at hcl hr4 ⊢
    have HR4 := Lib.hid hr4
    have HB34 := Lib.hid b4
    clear b4 hC hr4
    have hcmd2 : str cmd = .string s := lit_of HCMD.out
    have HC2 := Lib.hid hcmd2
    have hone : ∀ u ∈ [Value.string s], u.oneCell' = true := by simp [Value.oneCell']
    have HONE := Lib.hid hone
    have hnew : Rd (w4.alloc (.cells #[.string s] 9)) (some ⟨w4.heap.size, 0, none⟩) [.string s] := Rd.new1 _ _ _
    have HNEW := Lib.hid hnew
    have hsz4 : (w4.alloc (.cells #[.string s] 9)).heap.size = w4.heap.size + 1 := World.size_alloc ..
    clear hcmd2 hone hnew
    go_wp2_with (at_builtin; refine wpList_append_row _ rfl _ _ 29 rfl w3.heap.size 9 1 16 _ Tryd.underlying29 Tryd.info_str rfl (by decide) (.slice A4 C.length c4) C.length _ rfl (HR4.out.alloc _) (some ⟨w4.heap.size, 0, none⟩) 1 1 [.string s] rfl rfl HNEW.out HONE.out (by omega) (by simp only [maxLen]; omega) (by have := HB34.out.size; simp; omega) ?_; intro A5 c5 w5 hrow5 hg5 hb5)
    have hsz := HB34.out.size
    have B35 : Below w3.heap.size w3 w5 := Below.grown (HB34.out.alloc hsz _) hg5 (by simp; omega) (fun j e => (HR4.out.lt j e).1)
    have HG5 := Lib.hid (HG3.out.later B35)
    have HB5 := Lib.hid (HB3.out.trans (B35.mono HB3.out.size))
    obtain ⟨D, hD⟩ : ∃ D, D = C ++ [cmd] := ⟨_, rfl⟩
    have hDl : D.length = C.length + 1 := by rw [hD]; simp
    have hrd5 : Rd w5 A5 (D.map str) := by
      have := hrow5.rdS.1
      rw [← HC2.out] at this
      rw [hD, List.map_append]; exact this
    have HRD5 := Lib.hid hrd5
    have HDL := Lib.hid hDl
    clear hsz B35 hD hDl hrd5 hrow5 hg5 hb5 hsz4
    go_loopw [31] (fun u31 wr => ∃ k : Nat, u31 = n64 k ∧ k ≤ C.length + 1 ∧ Hid (Hg w2.heap.size wr hb L) ∧ Hid (Rd wr A5 (D.map str)) ∧ Hid (Below w.heap.size w wr)) (fun u31 _ => (C.length + 1 - intOf u31).toNat)
    case atStart => exact ⟨0, rfl, Nat.zero_le _, HG5, HRD5, HB5⟩
    case round =>
      obtain ⟨k, rfl, hk, HG, HRD, HB⟩ := hrel
      by_cases hlt : k < C.length + 1
      · obtain ⟨z, hz⟩ : ∃ z, D[k]? = some z := ⟨_, List.getElem?_eq_getElem (by rw [HDL.out]; exact hlt)⟩
        obtain ⟨sz, hsz⟩ : ∃ s : ByteArray, s = ⟨z.toArray⟩ := ⟨_, rfl⟩
        obtain ⟨g, off, rfl, c0⟩ := HRD.out k (str z) (by rw [List.getElem?_map, hz]; rfl)
        rw [lit_of hsz] at c0
        have HSZ := Lib.hid hsz
        have b1 : (k : Int) < (C.length : Int) + 1 := by omega
        have hu6 := HFN.out.uses z
        clear hz hsz
        go_wp2_with fail
        refine (HgUses_calls wr HG.out (by omega) z sz HSZ.out).mono ?_
        rintro e w6 ⟨A6, c6, rfl, hr6, b6⟩
        have HR6 := Lib.hid hr6.rdS.1
        have HB6 := Lib.hid (HB.out.trans (b6.mono HB.out.size))
        have HG6 := Lib.hid (HG.out.later b6)
        have HRD6 := Lib.hid (HRD.out.later b6)
        clear hr6 b6 c0
        go_wp2_with fail
        refine (HROF.out w6 HB6.out).mono ?_
        rintro e w7 ⟨A7, c7, rfl, hr7, b7⟩
        have HR7 := Lib.hid (HR6.out.later b7)
        have HB7 := Lib.hid (HB6.out.trans (b7.mono HB6.out.size))
        have HG7 := Lib.hid (HG6.out.later b7)
        have HRD7 := Lib.hid (HRD6.out.later b7)
        have q := rUses_calls w7 A7 c7 L hr7.rdS.1 (by omega) z sz HSZ.out
        have Q7 := Lib.hid q
        clear hr7 b7 q
        go_wp2_with fail
        refine Q7.out.mono ?_
        rintro e w8 ⟨A8, c8, rfl, hr8, b8⟩
        have HR8 := Lib.hid (HR7.out.later b8)
        have HB8 := Lib.hid (HB7.out.trans (b8.mono HB7.out.size))
        have HG8 := Lib.hid (HG7.out.later b8)
        have HRD8 := Lib.hid (HRD7.out.later b8)
        have HE8 := Lib.hid hr8.rdS.1
        have e8 : (L.filter fun x => decide (x.c = z)) = usesE L z := rfl
        rw [e8] at HE8 ⊢
        clear hr8 b8 e8
        obtain ⟨U, hU⟩ : ∃ U, U = usesE L z := ⟨_, rfl⟩
        rw [← hU] at HE8 HR8 hu6 ⊢
        clear hU
        have i6 : ¬ ((6 : Int) < (U.length : Int)) := by omega
        have i6' : (U.length : Int) ≤ 6 := by omega
        go_wp2
        go_loopw [54] (fun u54 wr => ∃ j : Nat, u54 = n64 j ∧ j ≤ U.length ∧ Hid (Hg w2.heap.size wr hb L) ∧ Hid (Rd wr (some ⟨g, off, none⟩) (D.map str)) ∧ Hid (Rd wr A6 (flatU U)) ∧ Hid (Rd wr A8 (flatE U)) ∧ Hid (Below w.heap.size w wr)) (fun u54 _ => (U.length - intOf u54).toNat)
        case atStart => exact ⟨0, rfl, Nat.zero_le _, HG8, HRD8, HR8, HE8, HB8⟩
        case round =>
          obtain ⟨j, rfl, hj, HG9, HRD9, HR9, HE9, HB9⟩ := hrel
          by_cases hjl : j < U.length
          · obtain ⟨x, hx⟩ : ∃ x, U[j]? = some x := ⟨_, List.getElem?_eq_getElem hjl⟩
            obtain ⟨g6, o6, rfl, d0, d1⟩ := RdU.at HR9.out hx
            obtain ⟨g8, o8, rfl, e0, e1, _⟩ := RdE.at HE9.out hx
            obtain ⟨sd, hsd⟩ : ∃ s : ByteArray, s = ⟨x.d.toArray⟩ := ⟨_, rfl⟩
            rw [lit_of hsd] at d1 e1
            obtain ⟨t, ht⟩ : ∃ t, t = x.t := ⟨_, rfl⟩
            rw [← ht] at d0 e0
            have j1 : (j : Int) < (U.length : Int) := by omega
            clear hx hsd ht
            go_wp2
            go_quiet (fail)
            rename_i nq
            have bq : Below wr.heap.size wr (wr.drewN nq) := ⟨rfl, rfl, rfl, Nat.le_refl _, fun _ _ => rfl⟩
            go_wp2
            go_roundw
            case rel => exact ⟨j + 1, by go_num, by omega, Lib.hid (HG9.out.later bq), Lib.hid (HRD9.out.later bq), Lib.hid (HR9.out.later bq), Lib.hid (HE9.out.later bq), Lib.hid (HB9.out.trans (bq.mono HB9.out.size))⟩
            case measure => simp [intOf]; omega
          · obtain rfl : j = U.length := by omega
            go_wp2
            go_roundw
            case rel => exact ⟨k + 1, by go_num, by omega, HG9, HRD9, HB9⟩
            case measure => simp [intOf]; omega
      · obtain rfl : k = C.length + 1 := by omega
        have b1 : ¬ ((C.length : Int) + 1 < (C.length : Int) + 1) := by omega
        go_wp2_with fail
        refine (al15_calls wr (HI.out.u8.later HB.out)).mono ?_
        rintro e w6 ⟨rfl, b6⟩
        go_wp2
        go_ret
        exact ⟨rfl, HB.out.trans (b6.mono HB.out.size)⟩
end Go.Proofs.YtpemjhghiccngaaDoor
