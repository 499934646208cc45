import Derived.Test.YticaeflnpgbngaaDoorKy1
namespace Go.Proofs.YticaeflnpgbngaaDoor
set_option linter.unusedVariables false
set_option linter.unusedSimpArgs false
open Go.RowKit Go.Maps
/-! csi: no paste. -/
theorem u8_lt {x : UInt8} : x.toNat < 256 := x.toNat_lt
set_option maxRecDepth 100000 in
set_option maxHeartbeats 3200000 in
theorem r4csiN_calls (A : Option Addr) (c : Nat) (b : Bs) (w : World) (h : RdB w A b) (hc : b.length ≤ c) (h2 : 2 ≤ b.length) (hl : b.length ≤ 100000) (hP : isP b = false) : Calls Tryd.prog 59 #[.slice A b.length c] w fun e w' => e = .returned (.tuple #[keyV (csiR b).1, n64 (csiR b).2]) ∧ Below w.heap.size w w' := by
  have HB0 := Lib.hid ((Below.refl w.heap.size w).alloc (Nat.le_refl _) (.cells keyZ 54))
  have HC0 := Lib.hid (heap_alloc_last w (.cells keyZ 54))
  have HR0 : Hid (RdB (w.alloc (.cells keyZ 54)) A b) := Lib.hid (Rd.later h ((Below.refl _ _).alloc (Nat.le_refl _) _))
  have qp := r4Paste_calls A c b (w.alloc (.cells keyZ 54)) HR0.out hc
  rw [hP] at qp
  have QP := Lib.hid qp
  have HP := Lib.hid hP
  obtain ⟨m, hm⟩ : ∃ m, m = midN (b.drop 2) := ⟨_, rfl⟩
  have hml : m + 2 ≤ b.length := by have := midN_le (b.drop 2); rw [List.length_drop] at this; omega
  have HM := Lib.hid hm
  unfold keyZ at HB0 HC0 QP HR0
  clear qp h hP hm
  go_enter Tryd.func59, Tryd.ntmps59
  go_wp2_with fail
  refine QP.out.mono ?_
  rintro e w1 ⟨rfl, b1⟩
  have HC1 := Lib.hid ((b1.block w.heap.size (by simp)).trans HC0.out)
  have HB1 := Lib.hid (HB0.out.trans (b1.mono (by simp)))
  have HR1 := Lib.hid (Rd.later HR0.out b1)
  have hs1 := b1.size
  rw [World.size_alloc] at hs1
  clear b1
  have hfo : Tryd.prog.follows Departure.mixedOrders = true := by kernel_rfl
  obtain ⟨c0, c1, f0, f1⟩ := key_cells HC1.out
  go_wp2_with fail
  go_loopw [6] (fun u6 wr => ∃ (j : Nat), u6 = .int .i64 ((2 : Int) + (j : Int)) ∧ j ≤ m ∧ wr = w1) (fun u6 _ => (100010 - intOf u6).toNat)
  case atStart => exact ⟨0, rfl, Nat.zero_le _, rfl⟩
  case round =>
    obtain ⟨j, rfl, hj, rfl⟩ := hrel
    have jb : j ≤ 100000 := by omega
    by_cases hlt : j < m
    · obtain ⟨x, hx, hmx⟩ := midN_at (b.drop 2) (by rw [← HM.out]; exact hlt)
      rw [List.getElem?_drop] at hx
      obtain ⟨g, off, rfl, c3⟩ := one2B HR1.out hx
      have c4 : wr.cell? ⟨g, off + (2 + j), none⟩ = some (byt x) := c3
      obtain ⟨x1, x2⟩ : 32 ≤ x.toNat ∧ x.toNat < 64 := hmx
      have b1 : (2 : Int) + (j : Int) < (b.length : Int) := by omega
      have b2 : (0 : Int) ≤ (2 : Int) + (j : Int) := by omega
      have b3 : ((2 : Int) + (j : Int)).toNat = 2 + j := by omega
      have x3 : (32 : Int) ≤ (x.toNat : Int) := by omega
      have x4 : (x.toNat : Int) ≤ 63 := by omega
      clear hx
      go_wp2
      go_roundw
      case rel => exact ⟨j + 1, by go_num, by omega, trivial⟩
      case measure => simp [intOf]; omega
    · obtain rfl : j = m := by omega
      clear hlt hj
      have b2 : (0 : Int) ≤ (2 : Int) + (j : Int) := by omega
      have b3 : ((2 : Int) + (j : Int)).toNat = 2 + j := by omega
      have b4 : (2 : Int) + (j : Int) = ((2 + j : Nat) : Int) := by omega
      have B4 := Lib.hid b4
      clear b4
      by_cases he : 2 + j = b.length
      · have HO := Lib.hid (csi_none HP.out (by rw [List.length_drop, ← HM.out]; omega))
        have e1 : (2 : Int) + (j : Int) = (b.length : Int) := by omega
        have b1 : ¬ (2 : Int) + (j : Int) < (b.length : Int) := by omega
        clear he
        go_wp2
        refine bodyPost_ret (v := .tuple #[.agg #[.int .i64 0, .string ⟨#[]⟩], .int .i64 0]) (results_key2 rfl rfl (key_set HC1.out _ _) rfl) rfl ⟨by rw [HO.out]; rfl, below_set2 HB1.out (Nat.le_refl _)⟩
      · have hlt : 2 + j < b.length := by omega
        obtain ⟨x, hx⟩ : ∃ x, b[2 + j]? = some x := ⟨_, List.getElem?_eq_getElem hlt⟩
        have hnm : ¬ mid x := midN_stop (b.drop 2) (by rw [← HM.out, List.getElem?_drop]; exact hx)
        have HCS := Lib.hid (csi_some HP.out (x := x) (by rw [← HM.out]; exact hx))
        rw [← HM.out] at HCS
        obtain ⟨g, off, rfl, c3⟩ := one2B HR1.out hx
        have c4 : wr.cell? ⟨g, off + (2 + j), none⟩ = some (byt x) := c3
        have b1 : (2 : Int) + (j : Int) < (b.length : Int) := by omega
        have e1 : ((2 : Int) + (j : Int) == (b.length : Int)) = false := by rw [beq_eq_false_iff_ne]; omega
        clear he hx
        by_cases x1 : 32 ≤ x.toNat
        · have x2 : 64 ≤ x.toNat := by unfold mid at hnm; omega
          have y1 : (32 : Int) ≤ (x.toNat : Int) := by omega
          have y2 : ¬ (x.toNat : Int) ≤ 63 := by omega
          have y3 : ¬ (x.toNat : Int) < 64 := by omega
          clear hnm
          by_cases x3 : x.toNat ≤ 126
          · have y4 : ¬ (126 : Int) < (x.toNat : Int) := by omega
            have HF : Hid (fin x) := Lib.hid ⟨x2, x3⟩
            by_cases hj0 : j = 0
            · subst hj0
              have HO := Lib.hid (show csiR b = (kb (arrK x), 3) by rw [HCS.out, if_pos HF.out, if_pos rfl])
              go_wp2_with (refine (r4arrow_calls x wr).mono ?_; rintro e w2 ⟨rfl, rfl⟩)
              refine bodyPost_ret (v := .tuple #[.agg #[.int .i64 (arrK x : Nat), .string ⟨#[]⟩], .int .i64 3]) (results_key2 rfl rfl (key_set HC1.out _ _) rfl) rfl ⟨by rw [HO.out]; rfl, below_set2 HB1.out (Nat.le_refl _)⟩
            · obtain ⟨L, hL⟩ : ∃ L, L = (b.drop 2).take j := ⟨_, rfl⟩
              have HO := Lib.hid (show csiR b = (kb (btwK L x), 2 + j + 1) by rw [HCS.out, if_pos HF.out, if_neg hj0, hL])
              have hsl : ∀ W : World, (Instr.slice 25 (.slice (some ⟨g, off, none⟩) b.length c) (some (.int .i64 2)) (some (.int .i64 ((2 : Int) + (j : Int)))) none).run Tryd.prog W = .ok (.slice (fromA8 (some ⟨g, off, none⟩) c 2) j (c - 2)) W := fun W => by
                have := run_sub8 (P := Tryd.prog) 25 5 Tryd.underlying25 Tryd.size_u8 (some ⟨g, off, none⟩) b.length c 2 (2 + j) (by omega) (by omega) hc W
                rw [← B4.out, show 2 + j - 2 = j by omega] at this
                exact this
              have hrL : RdB wr.drew (fromA8 (some ⟨g, off, none⟩) c 2) L := by
                have := rd_sub8 HR1.out 2 (2 + j) c hc
                rw [show 2 + j - 2 = j by omega, ← hL] at this
                exact this
              obtain ⟨sL, hsL⟩ : ∃ s : ByteArray, s = ⟨L.toArray⟩ := ⟨_, rfl⟩
              have hstr := run_strT (P := Tryd.prog) wr.drew 25 5 9 Tryd.underlying25 Tryd.underlying5 Tryd.underlying9 (fromA8 (some ⟨g, off, none⟩) c 2) L j (c - 2) sL (by rw [hL]; simp; omega) hrL hsL
              have HBT := Lib.hid (fun W => r4between_calls L x W)
              rw [lit_of hsL] at HBT
              have k4 : wr.drew.cell? ⟨g, off + (2 + j), none⟩ = some (byt x) := c3
              have k0 : wr.drew.cell? ⟨w.heap.size, 0, none⟩ = some (.int .i64 0) := c0
              have k1 : wr.drew.cell? ⟨w.heap.size, 1, none⟩ = some (.string ⟨#[]⟩) := c1
              have l0 : wr.drew.frozen? ⟨w.heap.size, 0, none⟩ = false := f0
              have l1 : wr.drew.frozen? ⟨w.heap.size, 1, none⟩ = false := f1
              have ej : ((2 : Int) + (j : Int) == 2) = false := by rw [beq_eq_false_iff_ne]; omega
              have W5 := Lib.hid (show IntKind.i64.wrap ((2 : Int) + (j : Int) + 1) = (2 : Int) + (j : Int) + 1 from IntWalk.i64_in _ (by omega))
              have w5 := W5.out
              clear hL hrL hsL hj0
              go_wp2_with fail
              go_region_with (go_at_call 72; refine (HBT.out _).mono ?_; rintro e w2 ⟨rfl, rfl⟩)
              all_goals
                go_wp2
                refine bodyPost_ret (v := .tuple #[.agg #[.int .i64 (btwK L x : Nat), .string ⟨#[]⟩], .int .i64 ((2 : Int) + (j : Int) + 1)]) (results_key2 rfl rfl (key_set HC1.out _ _) (by first | rfl | (show Value.int _ _ = _; rw [W5.out]))) rfl ⟨by rw [HO.out, B4.out]; rfl, (below_set2 HB1.out (Nat.le_refl _)).drew⟩
          · have y4 : (126 : Int) < (x.toNat : Int) := by omega
            have HO := Lib.hid (show csiR b = (kb 0, 2 + j) by rw [HCS.out, if_neg (fun e => x3 e.2)])
            go_wp2
            refine bodyPost_ret (v := .tuple #[.agg #[.int .i64 0, .string ⟨#[]⟩], .int .i64 ((2 : Int) + (j : Int))]) (results_key2 rfl rfl (key_set HC1.out _ _) rfl) rfl ⟨by rw [HO.out, B4.out]; rfl, below_set2 HB1.out (Nat.le_refl _)⟩
        · have y1 : ¬ (32 : Int) ≤ (x.toNat : Int) := by omega
          have y3 : (x.toNat : Int) < 64 := by omega
          have HO := Lib.hid (show csiR b = (kb 0, 2 + j) by rw [HCS.out, if_neg (fun e => by have := e.1; omega)])
          clear hnm
          go_wp2
          refine bodyPost_ret (v := .tuple #[.agg #[.int .i64 0, .string ⟨#[]⟩], .int .i64 ((2 : Int) + (j : Int))]) (results_key2 rfl rfl (key_set HC1.out _ _) rfl) rfl ⟨by rw [HO.out, B4.out]; rfl, below_set2 HB1.out (Nat.le_refl _)⟩
end Go.Proofs.YticaeflnpgbngaaDoor
namespace Go.Proofs.YticaeflnpgbngaaDoor
set_option linter.unusedVariables false
set_option linter.unusedSimpArgs false
open Go.RowKit Go.Maps
/-! escape, one. -/
theorem r4csi_calls (A : Option Addr) (c : Nat) (b : Bs) (w : World) (h : RdB w A b) (hc : b.length ≤ c) (h2 : 2 ≤ b.length) (hl : b.length ≤ 100000) : Calls Tryd.prog 59 #[.slice A b.length c] w fun e w' => e = .returned (.tuple #[keyV (csiR b).1, n64 (csiR b).2]) ∧ Below w.heap.size w w' := by
  cases hP : isP b with
  | true => exact r4csiP_calls A c b w h hc hl hP
  | false => exact r4csiN_calls A c b w h hc h2 hl hP
theorem escR_cons (y x : UInt8) (b : Bs) : escR (y :: x :: b) = if x = 91 then csiR (y :: x :: b)
    else if x = 79 then match b with
      | [] => (kb 0, 0)
      | z :: _ => if fin z then (kb (arrK z), 3) else (kb 0, 2)
    else if x = 98 then (kb 9, 2) else if x = 102 then (kb 10, 2) else if x = 100 then (kb 14, 2) else if x = 121 then (kb 16, 2) else if x = 127 then (kb 13, 2)
    else if 32 ≤ x.toNat ∧ x.toNat < 127 then (kb 0, 2) else (kb 27, 1) := rfl
theorem keyBody {fn : Func} {p u : Tmp} (h : fn.results = #[.cell p 54, .tmp u]) {a : Act} {w W : World} {x v : Value} {q : KeyT} {n : Nat} (ha : a.tmps.getD p undef = .pointer (some ⟨w.heap.size, 0, none⟩)) (hg : W.heap[w.heap.size]? = some (.cells #[x, .string ⟨#[]⟩] 54 (0, 0))) (hu : a.tmps.getD u undef = v) (hd : a.defers = [])
    (hb : Below w.heap.size w W) (h1 : keyV q = .agg #[x, .string ⟨#[]⟩]) (h2 : n64 n = v) {o : KeyT × Nat} (ho : o = (q, n)) : bodyPost Tryd.prog fn (fun e w' => e = .returned (.tuple #[keyV o.1, n64 o.2]) ∧ Below w.heap.size w w') .ret a W := by
  subst ho
  refine bodyPost_ret (v := .tuple #[.agg #[x, .string ⟨#[]⟩], v]) (results_key2 h ha hg hu) hd ⟨by rw [h1, h2], hb⟩
set_option maxRecDepth 100000 in
set_option maxHeartbeats 3200000 in
theorem r4escape_calls (A : Option Addr) (c : Nat) (b : Bs) (w : World) (h : RdB w A b) (hc : b.length ≤ c) (h1 : 1 ≤ b.length) (hl : b.length ≤ 100000) : Calls Tryd.prog 45 #[.slice A b.length c] w fun e w' => e = .returned (.tuple #[keyV (escR b).1, n64 (escR b).2]) ∧ Below w.heap.size w w' := by
  have HBa := fun x : Value => Lib.hid ((Below.refl w.heap.size w).alloc (Nat.le_refl _) (.cells #[x, .string ⟨#[]⟩] 54))
  have HCa := fun x : Value => Lib.hid (heap_alloc_last w (.cells #[x, .string ⟨#[]⟩] 54))
  match b, h1 with
  | [y], _ =>
    go_enter Tryd.func45, Tryd.ntmps45
    go_wp2
    exact keyBody (q := kb 0) (n := 0) rfl rfl (HCa _).out rfl rfl (HBa _).out rfl rfl rfl
  | y :: x :: t, _ =>
    have HR0 : ∀ o, RdB (w.alloc o) A (y :: x :: t) := fun o => Rd.later h ((Below.refl _ _).alloc (Nat.le_refl _) _)
    obtain ⟨g, off, rfl, c1⟩ := one2B (k := 1) h rfl
    have hE := escR_cons y x t
    have hln : (y :: x :: t).length = t.length + 2 := rfl
    have gl : g < w.heap.size := Rd.lt h rfl (by simp)
    have c1a : ∀ o : Obj, (w.alloc o).cell? ⟨g, off + 1, none⟩ = some (byt x) := fun o => (Below.cell ((Below.refl w.heap.size w).alloc (Nat.le_refl _) o) (p := ⟨g, off + 1, none⟩) gl).trans c1
    have hrz : ∀ z s, t = z :: s → ∀ o : Obj, (w.alloc o).cell? ⟨g, off + 2, none⟩ = some (byt z) := fun z s e o => by
      obtain ⟨g', off', e', c2⟩ := one2B (k := 2) (x := z) h (by rw [e]; rfl)
      cases e'
      exact (Below.cell ((Below.refl w.heap.size w).alloc (Nat.le_refl _) o) (p := ⟨g, off + 2, none⟩) gl).trans c2
    obtain ⟨B, hB⟩ : ∃ B, B = y :: x :: t := ⟨_, rfl⟩
    have HRB : Hid (∀ o, RdB (w.alloc o) (some ⟨g, off, none⟩) B) := Lib.hid (by rw [hB]; exact HR0)
    rw [← hB] at hE hln hc hl ⊢
    have h2l : 2 ≤ B.length := by omega
    have HLN := Lib.hid hln
    have e1 : ((B.length : Int) == 1) = false := by rw [beq_eq_false_iff_ne]; omega
    have h1B : (1 : Int) < (B.length : Int) := by omega
    have HBB := Lib.hid hB
    clear h HR0 hB hln
    by_cases x91 : x = 91
    · rw [if_pos x91] at hE
      have q := r4csi_calls (some ⟨g, off, none⟩) c B (w.alloc (.cells #[.int .i64 0, .string ⟨#[]⟩] 54)) (HRB.out _) hc h2l hl
      obtain ⟨o, ho⟩ : ∃ o, o = csiR B := ⟨_, rfl⟩
      rw [← ho] at q hE
      have HE := Lib.hid hE
      obtain ⟨⟨k, s⟩, n⟩ := o
      obtain ⟨sB, hsB⟩ : ∃ sB : ByteArray, sB = ⟨s.toArray⟩ := ⟨_, rfl⟩
      have hkv : keyV ⟨k, s⟩ = .agg #[n64 k, .string sB] := by rw [hsB]; rfl
      rw [hkv] at q
      have Q := Lib.hid q
      have HKV := Lib.hid hkv
      subst x91
      clear q hE ho hkv hsB hrz
      go_enter Tryd.func45, Tryd.ntmps45
      go_wp2_with (refine Q.out.mono ?_; rintro e w1 ⟨rfl, b1⟩; have hs1 := b1.size; have HC1 := Lib.hid ((b1.block w.heap.size (by simp)).trans (HCa (.int .i64 0)).out); have HB1 := Lib.hid ((HBa (.int .i64 0)).out.trans (b1.mono (by simp))); obtain ⟨k0, k1, l0, l1⟩ := key_cells HC1.out)
      refine bodyPost_ret (v := .tuple #[.agg #[n64 k, .string sB], n64 n]) (results_key2 rfl rfl (key_set HC1.out _ _) rfl) rfl ⟨by rw [HE.out]; show _ = Ending.returned (.tuple #[keyV ⟨k, s⟩, n64 n]); rw [HKV.out], below_set2 HB1.out (Nat.le_refl _)⟩
    rw [if_neg x91] at hE
    have i91 := ne_lit 91 (by decide) x91
    clear x91
    by_cases x79 : x = 79
    · rw [if_pos x79] at hE
      subst x79
      cases t with
      | nil =>
        have HE := Lib.hid hE
        have e2 : ((B.length : Int) == 2) = true := by rw [beq_iff_eq, HLN.out]; rfl
        clear hE hrz i91
        go_enter Tryd.func45, Tryd.ntmps45
        go_wp2
        exact keyBody (q := kb 0) (n := 0) rfl rfl (HCa _).out rfl rfl (HBa _).out rfl rfl HE.out
      | cons z t =>
        have c2a := hrz z t rfl
        have e2 : ((B.length : Int) == 2) = false := by rw [beq_eq_false_iff_ne, HLN.out, List.length_cons]; omega
        have h3B : (2 : Int) < (B.length : Int) := by rw [HLN.out, List.length_cons]; omega
        dsimp only at hE
        clear hrz i91
        by_cases hf : fin z
        · rw [if_pos hf] at hE
          obtain ⟨z1, z2⟩ : 64 ≤ z.toNat ∧ z.toNat ≤ 126 := hf
          have y1 : ¬ (z.toNat : Int) < 64 := by omega
          have y2 : ¬ (126 : Int) < (z.toNat : Int) := by omega
          have HE := Lib.hid hE
          clear hE
          go_enter Tryd.func45, Tryd.ntmps45
          go_wp2_with (refine (r4arrow_calls z _).mono ?_; rintro e w1 ⟨rfl, rfl⟩)
          exact keyBody (q := kb (arrK z)) (n := 3) rfl rfl (HCa _).out rfl rfl (HBa _).out rfl rfl HE.out
        · rw [if_neg hf] at hE
          have HE := Lib.hid hE
          have hz : z.toNat < 64 ∨ (¬ z.toNat < 64 ∧ 126 < z.toNat) := by unfold fin at hf; omega
          clear hE hf
          rcases hz with z1 | ⟨z1, z2⟩
          · have y1 : (z.toNat : Int) < 64 := by omega
            go_enter Tryd.func45, Tryd.ntmps45
            go_wp2
            exact keyBody (q := kb 0) (n := 2) rfl rfl (HCa _).out rfl rfl (HBa _).out rfl rfl HE.out
          · have y1 : ¬ (z.toNat : Int) < 64 := by omega
            have y2 : (126 : Int) < (z.toNat : Int) := by omega
            go_enter Tryd.func45, Tryd.ntmps45
            go_wp2
            exact keyBody (q := kb 0) (n := 2) rfl rfl (HCa _).out rfl rfl (HBa _).out rfl rfl HE.out
    rw [if_neg x79] at hE
    have i79 := ne_lit 79 (by decide) x79
    clear x79 hrz
    by_cases x98 : x = 98
    · rw [if_pos x98] at hE
      have HE := Lib.hid hE
      subst x98
      clear hE
      go_enter Tryd.func45, Tryd.ntmps45
      go_wp2
      exact keyBody (q := kb 9) (n := 2) rfl rfl (HCa _).out rfl rfl (HBa _).out rfl rfl HE.out
    rw [if_neg x98] at hE
    have i98 := ne_lit 98 (by decide) x98
    by_cases x102 : x = 102
    · rw [if_pos x102] at hE
      have HE := Lib.hid hE
      subst x102
      clear hE
      go_enter Tryd.func45, Tryd.ntmps45
      go_wp2
      exact keyBody (q := kb 10) (n := 2) rfl rfl (HCa _).out rfl rfl (HBa _).out rfl rfl HE.out
    rw [if_neg x102] at hE
    have i102 := ne_lit 102 (by decide) x102
    by_cases x100 : x = 100
    · rw [if_pos x100] at hE
      have HE := Lib.hid hE
      subst x100
      clear hE
      go_enter Tryd.func45, Tryd.ntmps45
      go_wp2
      exact keyBody (q := kb 14) (n := 2) rfl rfl (HCa _).out rfl rfl (HBa _).out rfl rfl HE.out
    rw [if_neg x100] at hE
    have i100 := ne_lit 100 (by decide) x100
    by_cases x121 : x = 121
    · rw [if_pos x121] at hE
      have HE := Lib.hid hE
      subst x121
      clear hE
      go_enter Tryd.func45, Tryd.ntmps45
      go_wp2
      exact keyBody (q := kb 16) (n := 2) rfl rfl (HCa _).out rfl rfl (HBa _).out rfl rfl HE.out
    rw [if_neg x121] at hE
    have i121 := ne_lit 121 (by decide) x121
    by_cases x127 : x = 127
    · rw [if_pos x127] at hE
      have HE := Lib.hid hE
      subst x127
      clear hE
      go_enter Tryd.func45, Tryd.ntmps45
      go_wp2
      exact keyBody (q := kb 13) (n := 2) rfl rfl (HCa _).out rfl rfl (HBa _).out rfl rfl HE.out
    rw [if_neg x127] at hE
    have i127 := ne_lit 127 (by decide) x127
    by_cases xm : 32 ≤ x.toNat ∧ x.toNat < 127
    · rw [if_pos xm] at hE
      obtain ⟨z1, z2⟩ := xm
      have y1 : (32 : Int) ≤ (x.toNat : Int) := by omega
      have y2 : (x.toNat : Int) < 127 := by omega
      have HE := Lib.hid hE
      clear hE x98 x102 x100 x121 x127
      go_enter Tryd.func45, Tryd.ntmps45
      go_wp2
      exact keyBody (q := kb 0) (n := 2) rfl rfl (HCa _).out rfl rfl (HBa _).out rfl rfl HE.out
    rw [if_neg xm] at hE
    have HE := Lib.hid hE
    clear hE x98 x102 x100 x121 x127
    by_cases z1 : 32 ≤ x.toNat
    · have y1 : (32 : Int) ≤ (x.toNat : Int) := by omega
      have y2 : ¬ (x.toNat : Int) < 127 := by omega
      clear xm
      go_enter Tryd.func45, Tryd.ntmps45
      go_wp2
      exact keyBody (q := kb 27) (n := 1) rfl rfl (HCa _).out rfl rfl (HBa _).out rfl rfl HE.out
    · have y1 : ¬ (32 : Int) ≤ (x.toNat : Int) := by omega
      clear xm
      go_enter Tryd.func45, Tryd.ntmps45
      go_wp2
      exact keyBody (q := kb 27) (n := 1) rfl rfl (HCa _).out rfl rfl (HBa _).out rfl rfl HE.out
end Go.Proofs.YticaeflnpgbngaaDoor
namespace Go.Proofs.YticaeflnpgbngaaDoor
set_option linter.unusedVariables false
set_option linter.unusedSimpArgs false
open Go.RowKit Go.Maps
/-! one. -/
theorem oneR_cons (x : UInt8) (b : Bs) : oneR (x :: b) = if x = 27 then escR (x :: b) else if x.toNat < 32 then (kb (lowK x), 1) else if x = 127 then (kb 3, 1) else if whole (x :: b) = false then (kb 0, 0) else (sgn (dec (x :: b)).1, (dec (x :: b)).2) := rfl
theorem keyV_of (q : KeyT) (s : ByteArray) (h : s = ⟨q.t.toArray⟩) : keyV q = .agg #[n64 q.k, .string s] := by rw [h]; rfl
set_option maxRecDepth 100000 in
set_option maxHeartbeats 3200000 in
theorem r4one_calls (A : Option Addr) (c : Nat) (b : Bs) (w : World) (h : RdB w A b) (hc : b.length ≤ c) (h1 : 1 ≤ b.length) (hl : b.length ≤ 100000) : Calls Tryd.prog 31 #[.slice A b.length c] w fun e w' => e = .returned (.tuple #[keyV (oneR b).1, n64 (oneR b).2]) ∧ Below w.heap.size w w' := by
  have HBa := fun x : Value => Lib.hid ((Below.refl w.heap.size w).alloc (Nat.le_refl _) (.cells #[x, .string ⟨#[]⟩] 54))
  have HCa := fun x : Value => Lib.hid (heap_alloc_last w (.cells #[x, .string ⟨#[]⟩] 54))
  match b, h1 with
  | x :: t, _ =>
    have HR0 : ∀ o, RdB (w.alloc o) A (x :: t) := fun o => Rd.later h ((Below.refl _ _).alloc (Nat.le_refl _) _)
    obtain ⟨g, off, rfl, c1⟩ := one2B (k := 0) h rfl
    have hE := oneR_cons x t
    have gl : g < w.heap.size := Rd.lt h rfl (by simp)
    have c1a : ∀ o : Obj, (w.alloc o).cell? ⟨g, off, none⟩ = some (byt x) := fun o => (Below.cell ((Below.refl w.heap.size w).alloc (Nat.le_refl _) o) (p := ⟨g, off, none⟩) gl).trans c1
    have hbne : x :: t ≠ [] := by simp
    obtain ⟨B, hB⟩ : ∃ B, B = x :: t := ⟨_, rfl⟩
    have HRB : Hid (∀ o, RdB (w.alloc o) (some ⟨g, off, none⟩) B) := Lib.hid (by rw [hB]; exact HR0)
    rw [← hB] at hE hc hl hbne ⊢
    have h2l : 1 ≤ B.length := by rw [hB]; simp
    have h1B : (0 : Int) < (B.length : Int) := by omega
    clear h HR0 hB c1
    by_cases x27 : x = 27
    · rw [if_pos x27] at hE
      have q := r4escape_calls (some ⟨g, off, none⟩) c B (w.alloc (.cells #[.int .i64 0, .string ⟨#[]⟩] 54)) (HRB.out _) hc h2l hl
      obtain ⟨o, ho⟩ : ∃ o, o = escR B := ⟨_, rfl⟩
      rw [← ho] at q hE
      have HE := Lib.hid hE
      obtain ⟨q0, n⟩ := o
      obtain ⟨sB, hsB⟩ : ∃ sB : ByteArray, sB = ⟨q0.t.toArray⟩ := ⟨_, rfl⟩
      have hkv := keyV_of q0 sB hsB
      rw [hkv] at q
      have Q := Lib.hid q
      have HKV := Lib.hid hkv
      subst x27
      clear q hE ho hkv hsB
      go_enter Tryd.func31, Tryd.ntmps31
      go_wp2_with (refine Q.out.mono ?_; rintro e w1 ⟨rfl, b1⟩; have hs1 := b1.size; have HC1 := Lib.hid ((b1.block w.heap.size (by simp)).trans (HCa (.int .i64 0)).out); have HB1 := Lib.hid ((HBa (.int .i64 0)).out.trans (b1.mono (by simp))); obtain ⟨k0, k1, l0, l1⟩ := key_cells HC1.out)
      refine bodyPost_ret (v := .tuple #[.agg #[n64 q0.k, .string sB], n64 n]) (results_key2 rfl rfl (key_set HC1.out _ _) rfl) rfl ⟨by rw [HE.out]; dsimp only; rw [HKV.out], below_set2 HB1.out (Nat.le_refl _)⟩
    rw [if_neg x27] at hE
    have i27 := ne_lit 27 (by decide) x27
    by_cases x32 : x.toNat < 32
    · rw [if_pos x32] at hE
      have HE := Lib.hid hE
      have y1 : (x.toNat : Int) < 32 := by omega
      have HLO := Lib.hid (fun W => r4low_calls x.toNat x32 W)
      have y2 : IntKind.i64.wrap (x.toNat : Int) = (x.toNat : Int) := IntWalk.i64_in _ (by omega)
      clear hE x27
      go_enter Tryd.func31, Tryd.ntmps31
      go_wp2_with (refine (HLO.out _).mono ?_; rintro e w1 ⟨rfl, b1⟩; have hs1 := b1.size; have HC1 := Lib.hid ((b1.block w.heap.size (by simp)).trans (HCa (.int .i64 0)).out); have HB1 := Lib.hid ((HBa (.int .i64 0)).out.trans (b1.mono (by simp))); obtain ⟨k0, k1, l0, l1⟩ := key_cells HC1.out)
      exact keyBody (q := kb (lowK x)) (n := 1) rfl rfl (key_set HC1.out _ _) rfl rfl (below_set2 HB1.out (Nat.le_refl _)) rfl rfl HE.out
    rw [if_neg x32] at hE
    have y1 : ¬ (x.toNat : Int) < 32 := by omega
    by_cases x127 : x = 127
    · rw [if_pos x127] at hE
      have HE := Lib.hid hE
      subst x127
      clear hE
      go_enter Tryd.func31, Tryd.ntmps31
      go_wp2
      exact keyBody (q := kb 3) (n := 1) rfl rfl (HCa _).out rfl rfl (HBa _).out rfl rfl HE.out
    rw [if_neg x127] at hE
    have i127 := ne_lit 127 (by decide) x127
    clear x27 x127 x32
    have qw := rWhole_calls (some ⟨g, off, none⟩) c B (w.alloc (.cells #[.int .i64 0, .string ⟨#[]⟩] 54)) (HRB.out _) hc (by omega)
    cases hw : whole B with
    | false =>
      rw [if_pos hw] at hE
      rw [hw] at qw
      have HE := Lib.hid hE
      have QW := Lib.hid qw
      clear hE qw hw
      go_enter Tryd.func31, Tryd.ntmps31
      go_wp2_with (refine QW.out.mono ?_; rintro e w1 ⟨rfl, b1⟩; have hs1 := b1.size; have HC1 := Lib.hid ((b1.block w.heap.size (by simp)).trans (HCa (.int .i64 0)).out); have HB1 := Lib.hid ((HBa (.int .i64 0)).out.trans (b1.mono (by simp))); obtain ⟨k0, k1, l0, l1⟩ := key_cells HC1.out)
      exact keyBody (q := kb 0) (n := 0) rfl rfl (key_set HC1.out _ _) rfl rfl (below_set2 HB1.out (Nat.le_refl _)) rfl rfl HE.out
    | true =>
      rw [if_neg (by rw [hw]; simp)] at hE
      rw [hw] at qw
      have QW := Lib.hid qw
      have QN := Lib.hid (fun (W : World) (h1 : RdB W (some ⟨g, off, none⟩) B) => by
        have q := rNext_calls (some ⟨g, off, none⟩) c B W h1 (by omega)
        rw [nxt_ne hbne] at q
        exact q)
      have HV := Lib.hid (dec_val B)
      obtain ⟨o, ho⟩ : ∃ o, o = dec B := ⟨_, rfl⟩
      rw [← ho] at hE QN HV
      obtain ⟨r, n⟩ := o
      obtain ⟨sB, hsB⟩ : ∃ sB : ByteArray, sB = ⟨(sgn r).t.toArray⟩ := ⟨_, rfl⟩
      have hkv := keyV_of (sgn r) sB hsB
      have SG := Lib.hid (fun W => r4sign_calls r HV.out W)
      rw [hkv] at SG
      have HKV := Lib.hid hkv
      have HE := Lib.hid hE
      clear hE qw hw ho hsB hkv HV
      go_enter Tryd.func31, Tryd.ntmps31
      go_wp2_with (first
        | (refine QW.out.mono ?_; rintro e w1 ⟨rfl, b1⟩; have hs1 := b1.size; have HC1 := Lib.hid ((b1.block w.heap.size (by simp)).trans (HCa (.int .i64 0)).out); have HB1 := Lib.hid ((HBa (.int .i64 0)).out.trans (b1.mono (by simp))); have HR1 := Lib.hid (Rd.later (HRB.out _) b1); rw [World.size_alloc] at hs1)
        | (refine (QN.out w1 HR1.out).mono ?_; rintro e w2 ⟨rfl, b2⟩; have hs2 := b2.size; have HC2 := Lib.hid ((b2.block w.heap.size (by omega)).trans HC1.out); have HB2 := Lib.hid (HB1.out.trans (b2.mono (by omega))))
        | (refine (SG.out w2).mono ?_; rintro e w3 ⟨rfl, b3⟩; have HC3 := Lib.hid ((b3.block w.heap.size (by omega)).trans HC2.out); have HB3 := Lib.hid (HB2.out.trans (b3.mono (by omega))); obtain ⟨k0, k1, l0, l1⟩ := key_cells HC3.out))
      refine bodyPost_ret (v := .tuple #[.agg #[n64 (sgn r).k, .string sB], n64 n]) (results_key2 rfl rfl (key_set HC3.out _ _) rfl) rfl ⟨by rw [HE.out]; dsimp only; rw [HKV.out], below_set2 HB3.out (Nat.le_refl _)⟩
end Go.Proofs.YticaeflnpgbngaaDoor
namespace Go.Proofs.YticaeflnpgbngaaDoor
set_option linter.unusedVariables false
set_option linter.unusedSimpArgs false
open Go.RowKit Go.Maps
/-! The document's Put. -/
abbrev stV (v : Value) (age : Nat) : Value := .agg #[v, n64 age]
abbrev RowR (w : World) (B : Nat) (v : Value) (l : List KeyT) : Prop := Row w B 54 2 v l.length (flatK l)
theorem Tryd.info_rkey : (Tryd.prog.info? 54).map (fun i => (i.zero, i.size, i.bytes)) = some (some (.agg #[.int .i64 0, .string ByteArray.empty]), 2, 24) := by kernel_rfl
theorem csiR_le {b : Bs} (h : 2 ≤ b.length) : (csiR b).2 ≤ b.length := by
  cases hP : isP b with
  | true =>
    rw [csi_paste hP]
    cases ho : endOf b 6 with
    | none => simp
    | some a => have := (endOf_bound ho).2; dsimp only; omega
  | false =>
    have hm := midN_le (b.drop 2)
    rw [List.length_drop] at hm
    by_cases he : 2 + midN (b.drop 2) = b.length
    · rw [csi_none hP (by rw [List.length_drop]; omega)]; simp
    · have hx : b[2 + midN (b.drop 2)]? = some (b[2 + midN (b.drop 2)]'(by omega)) := List.getElem?_eq_getElem (by omega)
      rw [csi_some hP hx]
      split
      · split
        · dsimp only; omega
        · dsimp only; omega
      · dsimp only; omega
theorem escR_le : (b : Bs) → (escR b).2 ≤ b.length
  | [] => Nat.zero_le _
  | [_] => Nat.zero_le _
  | y :: x :: t => by
      have hl : (y :: x :: t).length = t.length + 2 := rfl
      rw [escR_cons]
      split
      · exact csiR_le (by rw [hl]; omega)
      · split
        · cases t with
          | nil => simp
          | cons z t =>
            dsimp only
            split
            · rw [hl, List.length_cons]; dsimp only; omega
            · rw [hl]; dsimp only; omega
        · repeat' split
          all_goals (rw [hl]; dsimp only; omega)
theorem oneR_le : (b : Bs) → (oneR b).2 ≤ b.length
  | [] => Nat.zero_le _
  | x :: t => by
      rw [oneR_cons]
      split
      · exact escR_le _
      · split
        · simp
        · split
          · simp
          · split
            · simp
            · exact dec_le (by simp)
theorem run_from8 {P : Program} (t e : TypeId) (ht : P.underlying t = some (.slice e)) (hsz : ∀ w, (sizeOf e).run P w = .ok 1 w) (A : Option Addr) (n c k : Nat) (hk : k ≤ n) (hn : n ≤ c) (w : World) :
    (Instr.slice t (.slice A n c) (some (.int .i64 (k : Int))) none none).run P w = .ok (.slice (fromA8 A c k) (n - k) (c - k)) w := by
  have h1 : (0 : Int) ≤ (k : Int) ∧ (k : Int) ≤ (n : Int) := by omega
  simp [Instr.slice, run_underlying ht, Instr.sliceBounds, Instr.sliceBound, hsz, fromA8, h1, asIntOf]
  intro h2; omega
theorem Row.set2 {W : World} {B : Nat} {e T : TypeId} {sz : Nat} {v : Value} {n : Nat} {xs : List Value} (h : Row W B e sz v n xs) {g : Nat} {cs : Array Value} (hg : W.heap[g]? = some (.cells cs T (0, 0))) (hT : e ≠ T) (u u' : Value) : Row ((W.setCell ⟨g, 0, none⟩ u).setCell ⟨g, 1, none⟩ u') B e sz v n xs :=
  h.at_ fun k hk => by
    have hne : k ≠ g := fun e => by
      obtain ⟨c, hc⟩ := h.typ hk
      rw [e, hg] at hc
      injection hc with hc; injection hc with _ hc
      exact hT hc.symm
    rw [Below.heap_setCell _ _ _ _ hne, Below.heap_setCell _ _ _ _ hne]
theorem load_st {w : World} {b : Nat} {x y : Value} (h : w.heap[b]? = some (.cells #[x, y] 31 (0, 0))) : (loadVar 31 ⟨b, 0, none⟩).run Tryd.prog w = .ok (.agg #[x, y]) w :=
  run_loadVar_row w b _ _ _ (0, 0) _ h Tryd.underlying31 rfl (by kernel_rfl)
theorem results_st2 {fn : Func} {p u : Tmp} (h : fn.results = #[.cell p 31, .tmp u]) {tmps : Array Value} {w : World} {b : Nat} {x y v : Value} (ha : tmps.getD p undef = .pointer (some ⟨b, 0, none⟩)) (hg : w.heap[b]? = some (.cells #[x, y] 31 (0, 0))) (hu : tmps.getD u undef = v) :
    (results fn tmps).run Tryd.prog w = .ok (.tuple #[.agg #[x, y], v]) w := by
  rw [results_cell_tmp h, ha, hu]
  simp [asAddr, load_st hg]
set_option maxRecDepth 100000 in
set_option maxHeartbeats 3200000 in
theorem r4Put_calls (A : Option Addr) (c : Nat) (b : Bs) (age : Nat) (x : UInt8) (w : World) (h : RdB w A b) (hc : b.length ≤ c) (hl : b.length ≤ 90000) : Calls Tryd.prog 16 #[stV (.slice A b.length c) age, byt x] w fun e w' => ∃ v2 v3, e = .returned (.tuple #[stV v2 0, v3]) ∧ Row w' w.heap.size 5 1 v2 (putR b x).2.length ((putR b x).2.map byt) ∧ RowR w' w.heap.size v3 (putR b x).1 ∧ Below w.heap.size w w' := by
  obtain ⟨B, hB⟩ : ∃ B, B = b ++ [x] := ⟨_, rfl⟩
  have hBl : B.length = b.length + 1 := by rw [hB]; simp
  have hput : putR b x = read B := by rw [putR_eq, hB]
  rw [hput]
  obtain ⟨W0, hW0⟩ : ∃ W0, W0 = ((w.alloc (.cells #[.slice A b.length c, n64 age] 31)).alloc (.cells #[.slice none 0 0, .int .i64 0] 31)).alloc (.cells #[] 5) := ⟨_, rfl⟩
  have hb0 : Below w.heap.size w W0 := by
    rw [hW0]
    exact (((Below.refl _ _).alloc (Nat.le_refl _) _).alloc (by simp) _).alloc (by simp; omega) _
  have hr0 : Row W0 w.heap.size 5 1 (.slice (some ⟨w.heap.size + 1 + 1, 0, none⟩) 0 0) 0 [] := by
    rw [hW0]
    have := Row.new ((w.alloc (.cells #[.slice A b.length c, n64 age] 31)).alloc (.cells #[.slice none 0 0, .int .i64 0] 31)) #[] w.heap.size 5 1 0 (by simp; omega) (by decide) rfl
    simpa using this
  have hg0 : W0.heap[w.heap.size + 1]? = some (.cells #[.slice none 0 0, .int .i64 0] 31 (0, 0)) := by
    rw [hW0, Below.heap_alloc _ _ _ (by simp)]
    have := heap_alloc_last (w.alloc (.cells #[.slice A b.length c, n64 age] 31)) (.cells #[.slice none 0 0, .int .i64 0] 31)
    rwa [World.size_alloc] at this
  have hs0 := hb0.size
  have HR0 : Hid (RdB W0 A b) := Lib.hid (Rd.later h hb0)
  have HW0 := Lib.hid hW0
  have HB0 := Lib.hid hb0
  have HG0 := Lib.hid hg0
  have HR1 := Lib.hid hr0
  have HBB := Lib.hid hB
  have hs3 : w.heap.size + 3 ≤ W0.heap.size := by rw [hW0]; simp
  clear h hB hput hW0 hb0 hg0 hr0
  have hone : ∀ u ∈ b.map byt, u.oneCell' = true := fun u hu => by obtain ⟨y, _, rfl⟩ := List.mem_map.1 hu; rfl
  have HONE := Lib.hid hone
  clear hone
  go_enter Tryd.func16, Tryd.ntmps16
  go_wp2_with (first
    | (at_builtin; rw [← HW0.out]; refine wpList_append_row _ rfl _ _ 25 rfl w.heap.size 5 1 1 _ Tryd.underlying25 Tryd.info_u8 rfl (by decide) (.slice (some ⟨w.heap.size + 1 + 1, 0, none⟩) 0 0) 0 [] rfl HR1.out A b.length c (b.map byt) rfl (by simp) HR0.out HONE.out (by omega) (by simp only [maxLen]; omega) (by omega) ?_; intro A1 c1 w1 hrow1 hg1 hb1; simp only [Nat.zero_add, List.nil_append] at hrow1; have hG1 : w1.heap[w.heap.size + 1]? = some (.cells #[.slice none 0 0, .int .i64 0] 31 (0, 0)) := (hg1.block (w.heap.size + 1) (by omega) (by rw [ownB]; simp)).trans HG0.out; have hB1 : Below w.heap.size w w1 := Below.grown HB0.out hg1 HB0.out.size (fun j hj => (HR1.out.lt j hj).1))
    | (at_builtin; refine wpList_append_row _ rfl _ _ 25 rfl w.heap.size 5 1 1 _ Tryd.underlying25 Tryd.info_u8 rfl (by decide) (.slice A1 b.length c1) b.length (b.map byt) rfl (hrow1.alloc _) _ 1 1 [byt x] rfl rfl (Rd.new1 _ _ _) (by simp [Value.oneCell']) (by omega) (by simp only [maxLen]; omega) (by simp; have := hB1.size; omega) ?_; intro A2 c2 w2 hrow2 hg2 hb2))
  have hB2 : Below w.heap.size w w2 := app_below hB1 hB1.size hg2 (fun k hk => (hrow1.lt k hk).1)
  have hG2 : w2.heap[w.heap.size + 1]? = some (.cells #[.slice none 0 0, .int .i64 0] 31 (0, 0)) := app_heap hg2 hG1 (fun e => by
    obtain ⟨cs, hcs⟩ := hrow1.typ e
    rw [hG1] at hcs
    injection hcs with hcs; injection hcs with _ hcs
    exact absurd hcs (by decide))
  rw [← hBl] at hrow2
  rw [show b.map byt ++ [byt x] = B.map byt by rw [HBB.out]; simp] at hrow2
  have HI0 := Lib.hid hrow2
  have HIB := Lib.hid hB2
  have HIG := Lib.hid hG2
  rw [← hBl]
  have hBb : B.length ≤ 90001 := by omega
  clear hrow1 hrow2 hB1 hG1 hg1 hg2 hb1 hb2 hB2 hG2 HR0 HW0 HG0 HR1 HONE hBl
  go_loopw [6, 7] (fun u6 u7 wr => ∃ (r : Bs) (out : List KeyT) (n7 : Nat) (A6 : Option Addr) (c6 : Nat) (A7 : Option Addr) (c7 : Nat), u6 = .slice A6 r.length c6 ∧ u7 = .slice A7 n7 c7 ∧ Hid (n7 = out.length) ∧ n7 + r.length ≤ B.length ∧ Hid (out ++ (read r).1 = (read B).1 ∧ (read r).2 = (read B).2) ∧ Hid (Row wr w.heap.size 5 1 (.slice A6 r.length c6) r.length (r.map byt)) ∧ Hid (Row wr w.heap.size 54 2 (.slice A7 n7 c7) n7 (flatK out)) ∧ Hid (wr.heap[w.heap.size + 1]? = some (.cells #[.slice none 0 0, .int .i64 0] 31 (0, 0))) ∧ Hid (Below w.heap.size w wr)) (fun u6 _ _ => lenOf u6)
  case atStart => exact ⟨B, [], 0, A2, c2, none, 0, rfl, rfl, Lib.hid rfl, by omega, Lib.hid ⟨rfl, rfl⟩, HI0, Lib.hid (Row.nil _ _ _ _), HIG, HIB⟩
  case round =>
    obtain ⟨r, out, n7, A6, c6, A7, c7, rfl, rfl, HN, hn7, HRD, H6, H7, HG, HB⟩ := hrel
    by_cases h0 : r = []
    · subst h0
      have h3 := HRD.out
      rw [read_nil, List.append_nil] at h3
      have H3 := Lib.hid h3
      obtain ⟨c0, c1, f0, f1⟩ := key_cells HG.out
      clear h3
      go_wp2
      refine bodyPost_ret (v := .tuple #[.agg #[.slice none 0 0, .int .i64 0], .slice A7 n7 c7]) (results_st2 rfl rfl (key_set HG.out _ _) rfl) rfl ?_
      refine ⟨.slice none 0 0, .slice A7 n7 c7, rfl, ?_, ?_, below_set2 HB.out (by omega)⟩
      · rw [← H3.out.2]; exact Row.nil _ _ _ _
      · rw [← H3.out.1]
        unfold RowR
        rw [← HN.out]
        exact H7.out.set2 HG.out (by decide) _ _
    · have hr0 : 0 < r.length := List.length_pos_iff.2 h0
      have b1 : (0 : Int) < (r.length : Int) := by omega
      obtain ⟨Ar, cr, e6, hnc, hmx, hrd, _⟩ := H6.out.rd
      cases e6
      have q := r4one_calls A6 c6 r wr hrd hnc hr0 (by omega)
      have hle := oneR_le r
      have hst := read_step (b := r) h0
      have hwt := read_wait (b := r)
      obtain ⟨o, ho⟩ : ∃ o, o = oneR r := ⟨_, rfl⟩
      rw [← ho] at q hle hst hwt
      obtain ⟨q0, n⟩ := o
      dsimp only at q hle hst hwt
      obtain ⟨sB, hsB⟩ : ∃ sB : ByteArray, sB = ⟨q0.t.toArray⟩ := ⟨_, rfl⟩
      have hkv := keyV_of q0 sB hsB
      rw [hkv] at q
      have Q := Lib.hid q
      have HSB := Lib.hid hsB
      clear q ho hkv hsB
      by_cases hn : n = 0
      · have HRW := Lib.hid (hwt hn)
        subst hn
        clear hst hwt
        have hgl := lt_of_heap HG.out
        go_wp2_with (refine Q.out.mono ?_; rintro e w3 ⟨rfl, b3⟩; have hs3 := b3.size; have HG4 := Lib.hid ((Below.heap_alloc w3 (.cells #[n64 q0.k, .string sB] 54) _ (by omega)).trans ((b3.block (w.heap.size + 1) (by omega)).trans HG.out)); obtain ⟨c0, c1, f0, f1⟩ := key_cells HG4.out)
        have hb4 : Below w.heap.size w (w3.alloc (.cells #[n64 q0.k, .string sB] 54)) := (HB.out.trans (b3.mono HB.out.size)).alloc (by have := HB.out.size; omega) _
        have h3 := HRD.out
        rw [HRW.out, List.append_nil] at h3
        refine bodyPost_ret (v := .tuple #[.agg #[.slice A6 r.length c6, .int .i64 0], .slice A7 n7 c7]) (results_st2 rfl rfl (key_set HG4.out _ _) rfl) rfl ?_
        refine ⟨.slice A6 r.length c6, .slice A7 n7 c7, rfl, ?_, ?_, below_set2 hb4 (by omega)⟩
        · rw [← h3.2]; exact (((H6.out.below b3 (Nat.le_refl _)).alloc _).set2 HG4.out (by decide) _ _)
        · rw [← h3.1]
          unfold RowR
          rw [← HN.out]
          exact (((H7.out.below b3 (Nat.le_refl _)).alloc _).set2 HG4.out (by decide) _ _)
      · have hrs := hst hn
        have HRS := Lib.hid hrs
        have i0 : ((n : Int) == 0) = false := by rw [beq_eq_false_iff_ne]; omega
        have hnp : 0 < n := by omega
        have hgl := lt_of_heap HG.out
        have hsz := HB.out.size
        have hfrom := fun W => run_from8 (P := Tryd.prog) 25 5 Tryd.underlying25 Tryd.size_u8 A6 r.length c6 n hle hnc W
        have HF := Lib.hid (H6.out.from_ rfl n hle)
        clear hst hwt hn hrs
        go_wp2_with (first
          | (refine Q.out.mono ?_; rintro e w3 ⟨rfl, b3⟩; have hs3 := b3.size; have HG3 := Lib.hid ((b3.block (w.heap.size + 1) (by omega)).trans HG.out); have HB3 := Lib.hid (HB.out.trans (b3.mono HB.out.size)); have H73 := Lib.hid (H7.out.below b3 (Nat.le_refl _)); have H63 := Lib.hid (HF.out.below b3 (Nat.le_refl _)); have hnew : Rd ((w3.alloc (.cells #[n64 q0.k, .string sB] 54)).alloc (.cells #[n64 q0.k, .string sB] 54)) (some ⟨w3.heap.size + 1, 0, none⟩) [n64 q0.k, .string sB] := (by have := rdNew2 (w3.alloc (.cells #[n64 q0.k, .string sB] 54)) (n64 q0.k) (.string sB) 54; rwa [World.size_alloc] at this))
          | (at_builtin; refine wpList_append_row _ rfl _ _ 34 rfl w.heap.size 54 2 24 _ Tryd.underlying34 Tryd.info_rkey rfl (by decide) (.slice A7 n7 c7) n7 _ rfl ((H73.out.alloc _).alloc _) (some ⟨w3.heap.size + 1, 0, none⟩) 1 1 [n64 q0.k, .string sB] rfl rfl hnew (one2 _ _ rfl rfl) (by omega) (by simp only [maxLen]; omega) (by simp; omega) ?_; intro A9 c9 w9 hrow9 hg9 hb9))
        go_roundw
        case rel =>
          have hdl : (r.drop n).length = r.length - n := List.length_drop ..
          have h4 := HRD.out
          rw [HRS.out] at h4
          have hgr : ∀ {B : Nat} {e : TypeId} {sz : Nat} {v : Value} {m : Nat} {xs : List Value}, Row w3 B e sz v m xs → e ≠ 54 → Row w9 B e sz v m xs := fun h1 he => ((h1.alloc _).alloc _).at_ fun k hk => hg9.block k (((h1.alloc _).alloc _).lt k hk).2 fun e9 => by
            obtain ⟨cs, hcs⟩ := (((H73.out.alloc (.cells #[n64 q0.k, .string sB] 54)).alloc (.cells #[n64 q0.k, .string sB] 54)).typ e9.symm)
            obtain ⟨cs2, hcs2⟩ := ((h1.alloc (.cells #[n64 q0.k, .string sB] 54)).alloc (.cells #[n64 q0.k, .string sB] 54)).typ hk
            rw [hcs] at hcs2
            injection hcs2 with hcs2; injection hcs2 with _ hcs2
            exact he hcs2.symm
          refine ⟨r.drop n, out ++ [q0], n7 + 1, fromA8 A6 c6 n, c6 - n, A9, c9, by rw [hdl], rfl, Lib.hid (by rw [HN.out]; simp), by rw [hdl]; omega, Lib.hid ⟨?_, h4.2⟩, Lib.hid ?_, Lib.hid ?_, Lib.hid ?_, Lib.hid ?_⟩
          · rw [List.append_assoc]; exact h4.1
          · rw [hdl, List.map_drop]; exact hgr H63.out (by decide)
          · rw [flatK_app, flatK1]
            have h5 := hrow9
            rw [HSB.out] at h5
            exact h5
          · refine (hg9.block (w.heap.size + 1) (by simp; omega) fun e9 => ?_).trans (((Below.heap_alloc _ _ _ (by simp; omega)).trans (Below.heap_alloc _ _ _ (by omega))).trans HG3.out)
            obtain ⟨cs, hcs⟩ := H73.out.typ e9.symm
            rw [HG3.out] at hcs
            injection hcs with hcs; injection hcs with _ hcs
            exact absurd hcs (by decide)
          · exact Below.grown (((HB3.out.alloc (by omega) _).alloc (by simp; omega) _)) hg9 (by simp; omega) (fun j e => (H73.out.lt j e).1)
        case measure => simp [lenOf]; omega
end Go.Proofs.YticaeflnpgbngaaDoor
namespace Go.Proofs.YticaeflnpgbngaaDoor
set_option linter.unusedVariables false
set_option linter.unusedSimpArgs false
open Go.RowKit Go.Maps
/-! The document's Tick. -/
def StOut (w : World) (A : Option Addr) (b' : Bs) (age' : Nat) (ks : List KeyT) (e : Ending) (w' : World) : Prop :=
  ∃ A2 c2 v3, e = .returned (.tuple #[stV (.slice A2 b'.length c2) age', v3]) ∧ RdB w' A2 b' ∧ b'.length ≤ c2 ∧ (∀ a, A2 = some a → A = some a ∨ w.heap.size ≤ a.block) ∧ RowR w' w.heap.size v3 ks ∧ Below w.heap.size w w'
def stW (w : World) (A : Option Addr) (n c age : Nat) : World := (w.alloc (.cells #[.slice A n c, n64 age] 31)).alloc (.cells #[.slice none 0 0, .int .i64 0] 31)
theorem stW_facts (w : World) (A : Option Addr) (n c age : Nat) : Below w.heap.size w (stW w A n c age) ∧ (stW w A n c age).heap[w.heap.size]? = some (.cells #[.slice A n c, n64 age] 31 (0, 0)) ∧ (stW w A n c age).heap[w.heap.size + 1]? = some (.cells #[.slice none 0 0, .int .i64 0] 31 (0, 0)) ∧ (stW w A n c age).heap.size = w.heap.size + 2 := by
  refine ⟨((Below.refl _ _).alloc (Nat.le_refl _) _).alloc (by simp) _, ?_, ?_, by simp [stW]⟩
  · unfold stW
    rw [Below.heap_alloc _ _ _ (by simp)]
    exact heap_alloc_last w _
  · have := heap_alloc_last (w.alloc (.cells #[.slice A n c, n64 age] 31)) (.cells #[.slice none 0 0, .int .i64 0] 31)
    rwa [World.size_alloc] at this
theorem one_rowR (w : World) (B : Nat) (k : Nat) (hB : B ≤ w.heap.size) : RowR (w.alloc (.cells #[.int .i64 (k : Int), .string ⟨#[]⟩] 54)) B (.slice (some ⟨w.heap.size, 0, none⟩) 1 1) [kb k] := by
  have := Row.new w #[.int .i64 (k : Int), .string ⟨#[]⟩] B 54 2 1 hB (by decide) rfl
  simpa [RowR, flatK, keyCells, kb] using this
theorem stEnd {w W : World} {a : Act} {x y x0 y0 v : Value} {A A2 : Option Addr} {c2 age' : Nat} {b' : Bs} {ks : List KeyT} (hg : W.heap[w.heap.size + 1]? = some (.cells #[x0, y0] 31 (0, 0))) (hb : Below w.heap.size w W)
    (ha : a.tmps.getD 2 undef = .pointer (some ⟨w.heap.size + 1, 0, none⟩)) (hu : a.tmps.getD 3 undef = v) (hd : a.defers = []) (hx : x = .slice A2 b'.length c2) (hy : y = n64 age') (hr : RdB W A2 b') (hc : b'.length ≤ c2) (hA : ∀ e, A2 = some e → A = some e ∨ w.heap.size ≤ e.block) (hne : ∀ e, A2 = some e → b' ≠ [] → e.block ≠ w.heap.size + 1) (hk : RowR W w.heap.size v ks) :
    bodyPost Tryd.prog Tryd.f13 (StOut w A b' age' ks) .ret a ((W.setCell ⟨w.heap.size + 1, 0, none⟩ x).setCell ⟨w.heap.size + 1, 1, none⟩ y) := by
  subst hx; subst hy
  refine bodyPost_ret (v := .tuple #[.agg #[.slice A2 b'.length c2, n64 age'], v]) (results_st2 rfl ha (key_set hg _ _) hu) hd ⟨A2, c2, v, rfl, ?_, hc, hA, hk.set2 hg (by decide) _ _, below_set2 hb (by omega)⟩
  exact Rd.fr hr ((Fr.setCell W ⟨w.heap.size + 1, 0, none⟩ _).trans (Fr.setCell _ ⟨w.heap.size + 1, 1, none⟩ _) fun _ _ e => e) fun e he h0 => hne e he (by simpa using h0)
set_option maxRecDepth 100000 in
set_option maxHeartbeats 3200000 in
theorem r4Tick_calls (A : Option Addr) (c : Nat) (b : Bs) (age : Nat) (w : World) (h : RdB w A b) (hc : b.length ≤ c) (hl : b.length ≤ 90000) : Calls Tryd.prog 13 #[stV (.slice A b.length c) age] w (StOut w A (tickR b age).2.1 (tickR b age).2.2 (tickR b age).1) := by
  obtain ⟨hb0, hg0, hg1, hs0⟩ := stW_facts w A b.length c age
  have HW := Lib.hid (show stW w A b.length c age = (w.alloc (.cells #[.slice A b.length c, n64 age] 31)).alloc (.cells #[.slice none 0 0, .int .i64 0] 31) from rfl)
  obtain ⟨W0, hW0⟩ : ∃ W0, W0 = stW w A b.length c age := ⟨_, rfl⟩
  rw [← hW0] at hb0 hg0 hg1 hs0 HW
  have HR0 : Hid (RdB W0 A b) := Lib.hid (Rd.later h hb0)
  have HB0 := Lib.hid hb0
  have HG0 := Lib.hid hg0
  have HG1 := Lib.hid hg1
  clear hb0 hW0
  have hgl1 := lt_of_heap hg1
  have HNE : Hid (∀ e, A = some e → b ≠ [] → e.block ≠ w.heap.size + 1) := Lib.hid fun e he hn => by have := Rd.lt h he (by simpa using hn); omega
  by_cases h0 : b = []
  · have HT := Lib.hid (show tickR b age = ([], b, age) by unfold tickR; rw [if_pos (.inl h0)])
    rw [HT.out]
    subst h0
    obtain ⟨c0, c1, f0, f1⟩ := key_cells hg0
    obtain ⟨k0, k1, l0, l1⟩ := key_cells hg1
    clear hg0 hg1
    go_enter Tryd.func13, Tryd.ntmps13
    go_wp2
    refine bodyPost_ret (v := .tuple #[.agg #[.slice A 0 c, .int .i64 age], .slice none 0 0]) (results_st2 rfl rfl (b := w.heap.size + 1) (by
      have := heap_alloc_last (w.alloc (.cells #[.slice A 0 c, n64 age] 31)) (.cells #[.slice A 0 c, .int .i64 (age : Int)] 31)
      rwa [World.size_alloc] at this) rfl) rfl ⟨A, c, .slice none 0 0, rfl, Rd.nil _ _, Nat.zero_le _, fun a ha => .inl ha, Row.nil _ _ _ _, ((Below.refl _ _).alloc (Nat.le_refl _) _).alloc (by simp) _⟩
  have hr0 : 0 < b.length := List.length_pos_iff.2 h0
  have i0 : ((b.length : Int) == 0) = false := by rw [beq_eq_false_iff_ne]; omega
  have qp := r4Paste_calls A c b W0 HR0.out hc
  obtain ⟨c0, c1, f0, f1⟩ := key_cells hg0
  obtain ⟨k0, k1, l0, l1⟩ := key_cells hg1
  have ENT : ∀ w1, Below W0.heap.size W0 w1 → w1.heap[w.heap.size]? = some (.cells #[.slice A b.length c, n64 age] 31 (0, 0)) ∧ w1.heap[w.heap.size + 1]? = some (.cells #[.slice none 0 0, .int .i64 0] 31 (0, 0)) ∧ Below w.heap.size w w1 ∧ RdB w1 A b := fun w1 b1 => ⟨(b1.block _ (by omega)).trans HG0.out, (b1.block _ (by omega)).trans HG1.out, HB0.out.trans (b1.mono (by omega)), Rd.later HR0.out b1⟩
  cases hP : isP b with
  | true =>
    have HT := Lib.hid (show tickR b age = ([], b, age) by unfold tickR; rw [if_pos (.inr hP)])
    rw [HT.out]
    rw [hP] at qp
    have QP := Lib.hid qp
    clear hg0 hg1 qp hP
    go_enter Tryd.func13, Tryd.ntmps13
    go_wp2_with (rw [← HW.out]; refine QP.out.mono ?_; rintro e w1 ⟨rfl, b1⟩; obtain ⟨e0, e1, e2, e3⟩ := ENT w1 b1; clear c0 c1 f0 f1 k0 k1 l0 l1; obtain ⟨c0, c1, f0, f1⟩ := key_cells e0; obtain ⟨k0, k1, l0, l1⟩ := key_cells e1)
    exact stEnd e1 e2 rfl rfl rfl rfl rfl e3 hc (fun a ha => .inl ha) HNE.out (Row.nil _ _ _ _)
  | false =>
    rw [hP] at qp
    have QP := Lib.hid qp
    by_cases ha : age = 0
    · have HT := Lib.hid (show tickR b age = ([], b, 1) by unfold tickR; rw [if_neg (by rintro (e | e); exact h0 e; rw [hP] at e; cases e), if_pos ha])
      rw [HT.out]
      subst ha
      clear hg0 hg1 qp hP
      go_enter Tryd.func13, Tryd.ntmps13
      go_wp2_with (rw [← HW.out]; refine QP.out.mono ?_; rintro e w1 ⟨rfl, b1⟩; obtain ⟨e0, e1, e2, e3⟩ := ENT w1 b1; clear c0 c1 f0 f1 k0 k1 l0 l1; obtain ⟨c0, c1, f0, f1⟩ := key_cells e0; obtain ⟨k0, k1, l0, l1⟩ := key_cells e1)
      have hg2 := heap_setCell_same w1 w.heap.size 1 _ _ (.int .i64 1) e0
      have hb2 : Below w.heap.size w (w1.setCell ⟨w.heap.size, 1, none⟩ (.int .i64 1)) := ((Fr.of_below e2).trans (Fr.setCell w1 ⟨w.heap.size, 1, none⟩ _) fun i _ e => by rw [e]; exact Nat.le_refl _).below (Nat.le_refl _) fun k hk e => e
      have he1 : (w1.setCell ⟨w.heap.size, 1, none⟩ (.int .i64 1)).heap[w.heap.size + 1]? = some (.cells #[.slice none 0 0, .int .i64 0] 31 (0, 0)) := (Below.heap_setCell _ _ _ _ (by dsimp only; omega)).trans e1
      exact stEnd he1 hb2 rfl rfl rfl rfl rfl (Rd.later h hb2) hc (fun a ha => .inl ha) HNE.out (Row.nil _ _ _ _)
    have ia : ((age : Int) == 0) = false := by rw [beq_eq_false_iff_ne]; omega
    obtain ⟨y, t, hyt⟩ : ∃ y t, b = y :: t := by
      cases b with
      | nil => exact absurd rfl h0
      | cons y t => exact ⟨y, t, rfl⟩
    obtain ⟨g, off, rfl, c3⟩ := one2B (k := 0) (x := y) HR0.out (by rw [hyt]; rfl)
    have HY : ∀ w1, RdB w1 (some ⟨g, off, none⟩) b → w1.cell? ⟨g, off, none⟩ = some (byt y) := fun w1 h1 => by
      obtain ⟨g', off', e, c4⟩ := one2B (k := 0) (x := y) h1 (by rw [hyt]; rfl)
      cases e; exact c4
    have b0 : (0 : Int) < (b.length : Int) := by omega
    have hln : b.length = t.length + 1 := by rw [hyt]; rfl
    have hT : tickR b age = if y = 27 then (if t = [] then ([kb 27], [], 0) else ([kb 0], [], 0)) else ((runes b).map sgn, [], 0) := by
      unfold tickR
      rw [if_neg (by rintro (e | e); exact h0 e; rw [hP] at e; cases e), if_neg ha]
      by_cases e1 : y = 27
      · by_cases e2 : t = []
        · rw [if_pos (by rw [hyt, e1, e2]), if_pos e1, if_pos e2]
        · rw [if_neg (by rw [hyt, e1]; simp [e2]), if_pos (by rw [hyt, e1]; rfl), if_pos e1, if_neg e2]
      · rw [if_neg (by rw [hyt]; simp [e1]), if_neg (by rw [hyt]; simp [e1]), if_neg e1]
    clear hg0 hg1 qp hP c3 hyt
    by_cases e27 : y = 27
    · rw [if_pos e27] at hT
      subst e27
      by_cases ht : t = []
      · rw [if_pos ht] at hT
        have HT := Lib.hid hT
        rw [HT.out]
        have el : ((b.length : Int) == 1) = true := by rw [beq_iff_eq, hln, ht]; rfl
        clear hT hln ht
        go_enter Tryd.func13, Tryd.ntmps13
        go_wp2_with (rw [← HW.out]; refine QP.out.mono ?_; rintro e w1 ⟨rfl, b1⟩; obtain ⟨e0, e1, e2, e3⟩ := ENT w1 b1; have c9 := HY w1 e3; have hE1 := Lib.hid ((Below.heap_alloc w1 (.cells #[.int .i64 27, .string ⟨#[]⟩] 54) _ (lt_of_heap e1)).trans e1); obtain ⟨m0, m1, n0, n1⟩ := key_cells hE1.out; clear c0 c1 f0 f1 k0 k1 l0 l1; obtain ⟨c0, c1, f0, f1⟩ := key_cells e0; obtain ⟨k0, k1, l0, l1⟩ := key_cells e1)
        have hk := one_rowR w1 w.heap.size 27 e2.size
        exact stEnd (A2 := none) (c2 := 0) hE1.out (e2.alloc e2.size _) rfl rfl rfl rfl rfl (Rd.nil _ _) (Nat.zero_le _) (fun a ha => by cases ha) (fun _ h => by cases h) hk
      · rw [if_neg ht] at hT
        have HT := Lib.hid hT
        rw [HT.out]
        have htl : 0 < t.length := List.length_pos_iff.2 ht
        have el : ((b.length : Int) == 1) = false := by rw [beq_eq_false_iff_ne]; omega
        clear hT hln ht
        go_enter Tryd.func13, Tryd.ntmps13
        go_wp2_with (rw [← HW.out]; refine QP.out.mono ?_; rintro e w1 ⟨rfl, b1⟩; obtain ⟨e0, e1, e2, e3⟩ := ENT w1 b1; have c9 := HY w1 e3; have hE1 := Lib.hid ((Below.heap_alloc w1 (.cells #[.int .i64 0, .string ⟨#[]⟩] 54) _ (lt_of_heap e1)).trans e1); obtain ⟨m0, m1, n0, n1⟩ := key_cells hE1.out; clear c0 c1 f0 f1 k0 k1 l0 l1; obtain ⟨c0, c1, f0, f1⟩ := key_cells e0; obtain ⟨k0, k1, l0, l1⟩ := key_cells e1)
        have hk := one_rowR w1 w.heap.size 0 e2.size
        exact stEnd (A2 := none) (c2 := 0) hE1.out (e2.alloc e2.size _) rfl rfl rfl rfl rfl (Rd.nil _ _) (Nat.zero_le _) (fun a ha => by cases ha) (fun _ h => by cases h) hk
    · rw [if_neg e27] at hT
      have HT := Lib.hid hT
      rw [HT.out]
      have i27 := ne_lit 27 (by decide) e27
      have QR := Lib.hid (fun (w1 : World) (h1 : RdB w1 (some ⟨g, off, none⟩) b) => rRunes_calls (some ⟨g, off, none⟩) c b w1 h1 hc (by omega))
      clear e27 hT
      by_cases ht : t = []
      · have el : ((b.length : Int) == 1) = true := by rw [beq_iff_eq, hln, ht]; rfl
        clear hln ht
        go_enter Tryd.func13, Tryd.ntmps13
        go_wp2_with (rw [← HW.out]; refine QP.out.mono ?_; rintro e w1 ⟨rfl, b1⟩; obtain ⟨e0, e1, e2, e3⟩ := ENT w1 b1; have c9 := HY w1 e3; clear c0 c1 f0 f1 k0 k1 l0 l1; obtain ⟨c0, c1, f0, f1⟩ := key_cells e0; obtain ⟨k0, k1, l0, l1⟩ := key_cells e1; have QR1 := Lib.hid (QR.out w1 e3))
        refine QR1.out.mono ?_
        rintro e w2 ⟨v2, rfl, hrow2, b2⟩
        obtain ⟨A5, c5, rfl, hn5, _, hrd5, _⟩ := hrow2.rd
        have hrl := runes_length b
        have HV := Lib.hid (runes_val b)
        obtain ⟨rs, hrs⟩ : ∃ rs, rs = runes b := ⟨_, rfl⟩
        have HRSE := Lib.hid hrs
        rw [← hrs] at hrl HV hrd5 hn5 ⊢
        have HRS := Lib.hid hrd5
        have HB2 := Lib.hid (e2.trans (b2.mono e2.size))
        have HG2 := Lib.hid ((b2.block (w.heap.size + 1) (lt_of_heap e1)).trans e1)
        have hgl2 := lt_of_heap HG2.out
        clear hrow2 hrd5 hrs b2 e0 e1 e2 e3 c0 c1 f0 f1 k0 k1 l0 l1 c9 QR1
        go_wp2_with fail
        go_loopw [4, 6] (fun u4 u6 wr => ∃ (k : Nat) (A4 : Option Addr) (c4 : Nat), u6 = n64 k ∧ k ≤ rs.length ∧ u4 = .slice A4 k c4 ∧ Hid (Row wr w2.heap.size 54 2 (.slice A4 k c4) k (flatK ((rs.take k).map sgn))) ∧ Hid (Below w2.heap.size w2 wr)) (fun _ u6 _ => (rs.length - intOf u6).toNat)
        case atStart => exact ⟨0, none, 0, rfl, Nat.zero_le _, rfl, Lib.hid (Row.nil _ _ _ _), Lib.hid (Below.refl _ _)⟩
        case round =>
          obtain ⟨k, A4, c4, rfl, hk, rfl, HK, HBr⟩ := hrel
          by_cases hlt : k < rs.length
          · obtain ⟨x, hx⟩ : ∃ x, rs[k]? = some x := ⟨_, List.getElem?_eq_getElem hlt⟩
            obtain ⟨g5, o5, rfl, c9⟩ := (HRS.out.later HBr.out) k (n64 x) (by rw [List.getElem?_map, hx]; rfl)
            have hxv : Utf8.valid (x : Int) = true := HV.out x (List.mem_of_getElem? hx)
            have q := r4sign_calls x hxv wr
            obtain ⟨sB, hsB⟩ : ∃ sB : ByteArray, sB = ⟨(sgn x).t.toArray⟩ := ⟨_, rfl⟩
            rw [keyV_of (sgn x) sB hsB] at q
            have hst : flatK ((rs.take k).map sgn) ++ [n64 (sgn x).k, .string sB] = flatK ((rs.take (k + 1)).map sgn) := by
              rw [List.take_add_one, hx, List.map_append, flatK_app, hsB]
              simp [flatK, keyCells]
            have HST := Lib.hid hst
            have Q := Lib.hid q
            have b1 : (k : Int) < (rs.length : Int) := by omega
            have hszr := HBr.out.size
            obtain ⟨kx, hkx⟩ : ∃ kx, kx = (sgn x).k := ⟨_, rfl⟩
            rw [← hkx] at Q HST
            clear q hst hsB hxv hx hkx
            go_wp2_with (first
              | ((with_reducible refine Q.out.mono ?_); rintro e w3 ⟨rfl, b3⟩; have hs3 := b3.size; have HK3 := Lib.hid (HK.out.below b3 (Nat.le_refl _)); have HN := Lib.hid (rdNew2 w3 (n64 kx) (.string sB) 54))
              | (at_builtin; refine wpList_append_row _ rfl _ _ 34 rfl w2.heap.size 54 2 24 _ Tryd.underlying34 Tryd.info_rkey rfl (by decide) (.slice A4 k c4) k _ rfl (HK3.out.alloc _) (some ⟨w3.heap.size, 0, none⟩) 1 1 [n64 kx, .string sB] rfl rfl HN.out (one2 _ _ rfl rfl) (by omega) (by simp only [maxLen]; omega) (by simp; omega) ?_; intro A9 c9 w9 hrow9 hg9 hb9; rw [HST.out] at hrow9))
            go_roundw
            case rel =>
              exact ⟨k + 1, A9, c9, by go_num, by omega, rfl, Lib.hid hrow9, Lib.hid (Below.grown ((HBr.out.trans (b3.mono hszr)).alloc (by omega) _) hg9 (by simp; omega) (fun j e => (HK3.out.lt j e).1))⟩
            case measure => simp [intOf]; omega
          · obtain rfl : k = rs.length := by omega
            have HGr := Lib.hid ((HBr.out.block (w.heap.size + 1) hgl2).trans HG2.out)
            have HBB := Lib.hid (HB2.out.trans (HBr.out.mono HB2.out.size))
            obtain ⟨k0, k1, l0, l1⟩ := key_cells HGr.out
            have h9 := HK.out
            rw [List.take_length] at h9
            have H9 := Lib.hid h9
            clear h9
            go_wp2
            exact stEnd (A2 := none) (c2 := 0) HGr.out HBB.out rfl rfl rfl rfl rfl (Rd.nil _ _) (Nat.zero_le _) (fun a ha => by cases ha) (fun _ h => by cases h) (by unfold RowR; rw [List.length_map, ← HRSE.out]; exact H9.out.mono HB2.out.size)
      · have htl : 0 < t.length := List.length_pos_iff.2 ht
        have el : ((b.length : Int) == 1) = false := by rw [beq_eq_false_iff_ne]; omega
        clear hln ht
        go_enter Tryd.func13, Tryd.ntmps13
        go_wp2_with (rw [← HW.out]; refine QP.out.mono ?_; rintro e w1 ⟨rfl, b1⟩; obtain ⟨e0, e1, e2, e3⟩ := ENT w1 b1; have c9 := HY w1 e3; clear c0 c1 f0 f1 k0 k1 l0 l1; obtain ⟨c0, c1, f0, f1⟩ := key_cells e0; obtain ⟨k0, k1, l0, l1⟩ := key_cells e1; have QR1 := Lib.hid (QR.out w1 e3))
        refine QR1.out.mono ?_
        rintro e w2 ⟨v2, rfl, hrow2, b2⟩
        obtain ⟨A5, c5, rfl, hn5, _, hrd5, _⟩ := hrow2.rd
        have hrl := runes_length b
        have HV := Lib.hid (runes_val b)
        obtain ⟨rs, hrs⟩ : ∃ rs, rs = runes b := ⟨_, rfl⟩
        have HRSE := Lib.hid hrs
        rw [← hrs] at hrl HV hrd5 hn5 ⊢
        have HRS := Lib.hid hrd5
        have HB2 := Lib.hid (e2.trans (b2.mono e2.size))
        have HG2 := Lib.hid ((b2.block (w.heap.size + 1) (lt_of_heap e1)).trans e1)
        have hgl2 := lt_of_heap HG2.out
        clear hrow2 hrd5 hrs b2 e0 e1 e2 e3 c0 c1 f0 f1 k0 k1 l0 l1 c9 QR1
        go_wp2_with fail
        go_loopw [4, 6] (fun u4 u6 wr => ∃ (k : Nat) (A4 : Option Addr) (c4 : Nat), u6 = n64 k ∧ k ≤ rs.length ∧ u4 = .slice A4 k c4 ∧ Hid (Row wr w2.heap.size 54 2 (.slice A4 k c4) k (flatK ((rs.take k).map sgn))) ∧ Hid (Below w2.heap.size w2 wr)) (fun _ u6 _ => (rs.length - intOf u6).toNat)
        case atStart => exact ⟨0, none, 0, rfl, Nat.zero_le _, rfl, Lib.hid (Row.nil _ _ _ _), Lib.hid (Below.refl _ _)⟩
        case round =>
          obtain ⟨k, A4, c4, rfl, hk, rfl, HK, HBr⟩ := hrel
          by_cases hlt : k < rs.length
          · obtain ⟨x, hx⟩ : ∃ x, rs[k]? = some x := ⟨_, List.getElem?_eq_getElem hlt⟩
            obtain ⟨g5, o5, rfl, c9⟩ := (HRS.out.later HBr.out) k (n64 x) (by rw [List.getElem?_map, hx]; rfl)
            have hxv : Utf8.valid (x : Int) = true := HV.out x (List.mem_of_getElem? hx)
            have q := r4sign_calls x hxv wr
            obtain ⟨sB, hsB⟩ : ∃ sB : ByteArray, sB = ⟨(sgn x).t.toArray⟩ := ⟨_, rfl⟩
            rw [keyV_of (sgn x) sB hsB] at q
            have hst : flatK ((rs.take k).map sgn) ++ [n64 (sgn x).k, .string sB] = flatK ((rs.take (k + 1)).map sgn) := by
              rw [List.take_add_one, hx, List.map_append, flatK_app, hsB]
              simp [flatK, keyCells]
            have HST := Lib.hid hst
            have Q := Lib.hid q
            have b1 : (k : Int) < (rs.length : Int) := by omega
            have hszr := HBr.out.size
            obtain ⟨kx, hkx⟩ : ∃ kx, kx = (sgn x).k := ⟨_, rfl⟩
            rw [← hkx] at Q HST
            clear q hst hsB hxv hx hkx
            go_wp2_with (first
              | ((with_reducible refine Q.out.mono ?_); rintro e w3 ⟨rfl, b3⟩; have hs3 := b3.size; have HK3 := Lib.hid (HK.out.below b3 (Nat.le_refl _)); have HN := Lib.hid (rdNew2 w3 (n64 kx) (.string sB) 54))
              | (at_builtin; refine wpList_append_row _ rfl _ _ 34 rfl w2.heap.size 54 2 24 _ Tryd.underlying34 Tryd.info_rkey rfl (by decide) (.slice A4 k c4) k _ rfl (HK3.out.alloc _) (some ⟨w3.heap.size, 0, none⟩) 1 1 [n64 kx, .string sB] rfl rfl HN.out (one2 _ _ rfl rfl) (by omega) (by simp only [maxLen]; omega) (by simp; omega) ?_; intro A9 c9 w9 hrow9 hg9 hb9; rw [HST.out] at hrow9))
            go_roundw
            case rel =>
              exact ⟨k + 1, A9, c9, by go_num, by omega, rfl, Lib.hid hrow9, Lib.hid (Below.grown ((HBr.out.trans (b3.mono hszr)).alloc (by omega) _) hg9 (by simp; omega) (fun j e => (HK3.out.lt j e).1))⟩
            case measure => simp [intOf]; omega
          · obtain rfl : k = rs.length := by omega
            have HGr := Lib.hid ((HBr.out.block (w.heap.size + 1) hgl2).trans HG2.out)
            have HBB := Lib.hid (HB2.out.trans (HBr.out.mono HB2.out.size))
            obtain ⟨k0, k1, l0, l1⟩ := key_cells HGr.out
            have h9 := HK.out
            rw [List.take_length] at h9
            have H9 := Lib.hid h9
            clear h9
            go_wp2
            exact stEnd (A2 := none) (c2 := 0) HGr.out HBB.out rfl rfl rfl rfl rfl (Rd.nil _ _) (Nat.zero_le _) (fun a ha => by cases ha) (fun _ h => by cases h) (by unfold RowR; rw [List.length_map, ← HRSE.out]; exact H9.out.mono HB2.out.size)
end Go.Proofs.YticaeflnpgbngaaDoor
