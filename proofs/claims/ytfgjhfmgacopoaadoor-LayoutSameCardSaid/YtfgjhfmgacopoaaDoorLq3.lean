import Derived.Test.YtfgjhfmgacopoaaDoorLq0
import Derived.Test.YtfgjhfmgacopoaaDoorLo19
namespace Go.Proofs.YtfgjhfmgacopoaaDoor
set_option linter.unusedVariables false
set_option linter.unusedSimpArgs false
open Go.RowKit Go.Shelf
/-! Chapter 18: LayoutText, walked. -/
theorem shown_len {c : Bs} : (shown c).length ≤ 4 * c.length := by
  unfold shown
  split
  · simp
  · rename_i h
    have : 0 < c.length := List.length_pos_iff.2 h
    split
    · show 3 ≤ _; omega
    · unfold clean
      have h1 := enc_flat_len (runes c)
      have h2 := runes_length c
      omega
theorem shown_flat (cs : List Bs) : (cs.flatMap shown).length ≤ 4 * cs.flatten.length := by
  induction cs with
  | nil => simp
  | cons c cs ih => rw [List.flatMap_cons, List.flatten_cons, List.length_append, List.length_append]; have := shown_len (c := c); omega
def smR (l : RowT) : Prop := ∀ c ∈ l, c.s.length ≤ 4800
theorem smR_app {a b : RowT} (h : smR a) (k : smR b) : smR (a ++ b) := fun c hc => by
  rcases List.mem_append.1 hc with e | e
  · exact h c e
  · exact k c e
theorem smR_cells (cols : Nat) (c : Bs) (d : Bool) (h : c.length ≤ 1200) : smR (cellsP cols c d) := by
  have hs := shown_len (c := c)
  unfold cellsP
  split
  · intro x hx; rw [List.mem_singleton] at hx; subst hx; dsimp only; omega
  · split
    · intro x hx; rw [List.mem_singleton] at hx; subst hx; show 3 ≤ 4800; omega
    · intro x hx
      rcases List.mem_cons.1 hx with e | e
      · subst e; dsimp only; omega
      · rw [List.mem_singleton] at e; subst e; show 0 ≤ 4800; omega
theorem smR_blanks (n : Nat) : smR (blanks n) := fun c hc => by
  rw [(List.mem_replicate.1 hc).2]; show 1 ≤ 4800; omega
def ShT.Sml (S : ShT) : Prop := (∀ l ∈ S.done, smR l) ∧ smR S.cur
theorem fit_sml {cols : Nat} {S : ShT} (h : S.Sml) (n : Nat) : (fitP cols S n).Sml := by
  unfold fitP
  split
  · refine ⟨fun l hl => ?_, fun c hc => by simp at hc⟩
    rcases List.mem_append.1 hl with hl | hl
    · exact h.1 l hl
    · rw [List.mem_singleton] at hl; subst hl; exact smR_app h.2 (smR_blanks _)
  · exact h
theorem fold_sml {cols : Nat} : (l : List Bs) → (∀ c ∈ l, c.length ≤ 1200) → (S : ShT) → S.Sml → (foldS cols S l).Sml
  | [], _, S, h => h
  | c :: l, hl, S, h => fold_sml l (fun d hd => hl d (List.mem_cons_of_mem _ hd)) _ ⟨(fit_sml h _).1, smR_app (fit_sml h _).2 (smR_cells _ _ _ (hl c (List.mem_cons_self ..)))⟩
theorem mem_flat_len {cs : List Bs} {c : Bs} (h : c ∈ cs) : c.length ≤ cs.flatten.length := by
  induction cs with
  | nil => cases h
  | cons d cs ih =>
    rw [List.flatten_cons, List.length_append]
    rcases List.mem_cons.1 h with e | e
    · subst e; omega
    · have := ih e; omega
theorem cuts_mem_len {l c : Bs} (h : c ∈ cuts l) : c.length ≤ l.length := by
  have := mem_flat_len h
  rw [cuts_flat] at this; exact this
theorem tx_small {c : Int} {l s : Bs} : ∀ r ∈ (txV c l s).of.rows, smR r := by
  intro r hr
  have hm := (txV c l s).of_mem r hr
  have h1 : (txV c l s).s1.Sml := fold_sml _ (fun d hd => by have := cuts_mem_len hd; have := plainL_len (txV c l s).left; omega) _ ⟨fun _ h => by simp at h, fun c hc => by simp at hc⟩
  have h2 : (txV c l s).s2.Sml := fold_sml _ (fun d hd => by have := cuts_mem_len hd; have h9 : (txV c l s).tx.length ≤ 1200 := plainL_len (txV c l s).text; omega) _ h1
  have h3 : (txV c l s).s3.Sml := by
    unfold ViewT.s3
    split
    · exact fit_sml h2 1
    · exact h2
  have hg := flat_gh (txV c l s) rfl
  have hR := not_right (txV c l s) rfl
  unfold ViewT.drawn ViewT.A at hm
  rw [if_neg hR, hg, List.append_nil] at hm
  rcases List.mem_append.1 hm with e | e
  · exact h3.1 r e
  · rw [List.mem_singleton] at e; subst e; exact smR_app h3.2 (smR_blanks _)
theorem sm_flat {l : RowT} (h : smR l) : (l.flatMap (·.s)).length ≤ 4800 * l.length := by
  induction l with
  | nil => simp
  | cons c l ih =>
    rw [List.flatMap_cons, List.length_append, List.length_cons]
    have := ih (fun d hd => h d (List.mem_cons_of_mem _ hd))
    have := h c (List.mem_cons_self ..)
    omega
theorem got_len {L : List RowT} {cc : Nat} (h : ∀ r ∈ L, smR r) (hc : ∀ r ∈ L, r.length = cc) (hcc : cc ≤ 120) : (gotP L).length ≤ 576000 * L.length := by
  induction L with
  | nil => simp [gotP]
  | cons r L ih =>
    unfold gotP at ih ⊢
    rw [List.flatMap_cons, List.length_append, List.length_cons]
    have h1 := ih (fun d hd => h d (List.mem_cons_of_mem _ hd)) (fun d hd => hc d (List.mem_cons_of_mem _ hd))
    have h2 := sm_flat (h r (List.mem_cons_self ..))
    have h3 := hc r (List.mem_cons_self ..)
    omega
theorem take_flat_len (cs : List Bs) (j : Nat) : (cs.take j).flatten.length ≤ cs.flatten.length := by
  have := congrArg List.length (congrArg List.flatten (List.take_append_drop j cs))
  rw [List.flatten_append, List.length_append] at this; omega
def wantK (xs : List Bs) : Bs := xs.flatMap fun x => (cuts (pl x)).flatMap shown
theorem wantK_two (l s : Bs) : wantK [l, s] = wantP l s := by simp [wantK, wantP]
theorem want_len (xs : List Bs) : (wantK xs).length ≤ 16 * xs.flatten.length := by
  induction xs with
  | nil => simp [wantK]
  | cons x xs ih =>
    unfold wantK at ih ⊢
    rw [List.flatMap_cons, List.flatten_cons, List.length_append, List.length_append]
    have h1 := shown_flat (cuts (pl x))
    rw [cuts_flat] at h1
    have h2 := pl_len x
    omega
set_option maxHeartbeats 4000000 in
set_option maxRecDepth 100000 in
theorem LayoutText_walk (cols : Int) (l s : Bs) (hl : l.length ≤ 140737488351232) (hs2 : s.length ≤ 140737488351232) (bl bs : ByteArray) (hbl : bl = ⟨l.toArray⟩) (hbs : bs = ⟨s.toArray⟩) (w : World) (hU : U8 w) :
    Calls Tryd.prog 6 #[.int .i64 cols, .string bl, .string bs] w fun e w' => e = .returned (.bool true) ∧ Below w.heap.size w w' := by
  have AL := Lib.hid (fun W (h : Below w.heap.size w W) => al18_calls W (hU.later h))
  have hsz1 : bl.size = l.length := by rw [hbl, str_of]
  have hsz2 : bs.size = s.length := by rw [hbs, str_of]
  have HB1 := Lib.hid hbl
  have HB2 := Lib.hid hbs
  have w1 : (bl.size : Int) ≤ 140737488351232 := by rw [hsz1]; omega
  have w2 : (bs.size : Int) ≤ 140737488351232 := by rw [hsz2]; omega
  by_cases h1 : 100 < l.length + s.length
  · have t1 : (100 : Int) < (bl.size : Int) + (bs.size : Int) := by rw [hsz1, hsz2]; omega
    clear hbl hbs hsz1 hsz2 h1
    go_enter Tryd.func6, Tryd.ntmps6
    go_wp2_with fail
    refine (AL.out _ (Below.refl _ _)).mono ?_
    rintro e w2 ⟨rfl, D2⟩
    go_wp2_with fail
    go_ret
    exact ⟨rfl, D2⟩
  have t1 : (bl.size : Int) + (bs.size : Int) ≤ 100 := by rw [hsz1, hsz2]; omega
  by_cases h3 : cols < 2
  · clear hbl hbs hsz1 hsz2 h1
    go_enter Tryd.func6, Tryd.ntmps6
    go_wp2_with fail
    refine (AL.out _ (Below.refl _ _)).mono ?_
    rintro e w2 ⟨rfl, D2⟩
    go_wp2_with fail
    go_ret
    exact ⟨rfl, D2⟩
  by_cases h4 : 120 < cols
  · have h3' : 2 ≤ cols := by omega
    clear hbl hbs hsz1 hsz2 h1 h3
    go_enter Tryd.func6, Tryd.ntmps6
    go_wp2_with fail
    refine (AL.out _ (Below.refl _ _)).mono ?_
    rintro e w2 ⟨rfl, D2⟩
    go_wp2_with fail
    go_ret
    exact ⟨rfl, D2⟩
  obtain ⟨cc, rfl⟩ : ∃ cc : Nat, cols = (cc : Int) := ⟨cols.toNat, by omega⟩
  have c1 : 2 ≤ (cc : Int) := by omega
  have c2 : (cc : Int) ≤ 120 := by omega
  have hcc : (txV (cc : Int) l s).c = cc := by
    have := clamp_id (n := (cc : Int)) (hi := 120) (by omega) c2
    show clampN (cc : Int) 120 = cc
    omega
  have law := text_law (c := (cc : Int)) (l := l) (s := s) c1 (by omega)
  obtain ⟨L, hL⟩ : ∃ L, L = (txV (cc : Int) l s).of.rows := ⟨_, rfl⟩
  have hLn : L.length ≤ 60 := by rw [hL, (txV (cc : Int) l s).of_len]; have := (txV (cc : Int) l s).n_range; omega
  have hLc : ∀ r ∈ L, r.length = cc := by rw [hL]; intro r hr; rw [(txV (cc : Int) l s).of_cols r hr, hcc]
  have hLs : ∀ r ∈ L, smR r := by rw [hL]; exact tx_small
  rw [← hL, ← wantK_two] at law
  have OF := Lib.hid (fun W (h : Below w.heap.size w W) => LOf_calls (txV (cc : Int) l s) (by unfold ViewT.small txV; simp; omega) W (hU.later h))
  have hval : (txV (cc : Int) l s).val = .agg #[.int .i64 60, .int .i64 (cc : Int), .string bl, .string ⟨#[]⟩, .string ⟨#[]⟩, .string bs, .int .i64 0] := by rw [hbl, hbs]; rfl
  rw [hval] at OF
  have hls : l.length + s.length ≤ 100 := by omega
  have HL := Lib.hid hL
  have HLC := Lib.hid hLc
  have HLS := Lib.hid hLs
  have LAW := Lib.hid law
  clear hbl hbs hsz1 hsz2 h1 h3 h4 hL hLc hLs law hval hcc
  go_enter Tryd.func6, Tryd.ntmps6
  go_wp2_with fail
  refine (OF.out _ (Below.refl _ _)).mono ?_
  rintro e w2 ⟨vv, rs, rfl, R2, D2⟩
  have F2 := R2.frG (ViewT.c_range _).2
  rw [← HL.out] at F2
  obtain ⟨A, cp, hvv, _, _, hrd2, _⟩ := F2.out.rd
  subst hvv
  unfold frV
  obtain ⟨row, hrow⟩ : ∃ r, r = (txV (cc : Int) l s).of.row := ⟨_, rfl⟩
  obtain ⟨col, hcol⟩ : ∃ r, r = (txV (cc : Int) l s).of.col := ⟨_, rfl⟩
  obtain ⟨vals, hvals⟩ : ∃ vals, vals = rs.map (rowV (txV (cc : Int) l s).c) := ⟨_, rfl⟩
  rw [← hvals] at F2 hrd2
  rw [← hrow, ← hcol]
  have HF2 := Lib.hid F2
  have HD2 := Lib.hid D2
  clear F2 R2 hrd2 D2 hrow hcol hvals
  obtain ⟨b3, hb3⟩ : ∃ b, b = w2.heap.size := ⟨_, rfl⟩
  obtain ⟨b4, hb4⟩ : ∃ b, b = w2.heap.size + 1 := ⟨_, rfl⟩
  obtain ⟨W4, hW4⟩ : ∃ W4, W4 = (w2.alloc (.cells #[.slice A L.length cp, .int .i64 (row : Int), .int .i64 (col : Int)] 28)).alloc (.cells #[.string bl, .string bs] 9) := ⟨_, rfl⟩
  have D4 : Below w2.heap.size w2 W4 := by rw [hW4]; exact ((Below.refl _ _).alloc (Nat.le_refl _) _).alloc (by simp) _
  have X4 : FrB W4 b3 (.slice A L.length cp) row col := by
    rw [hW4, hb3]
    exact (Below.heap_alloc _ _ _ (by simp)).trans (heap_alloc_new w2 _)
  have Y4 : W4.heap[b4]? = some (.cells #[.string bl, .string bs] 9 (0, 0)) := by
    rw [hW4, hb4]
    have := heap_alloc_new (w2.alloc (.cells #[.slice A L.length cp, .int .i64 (row : Int), .int .i64 (col : Int)] 28)) (.cells #[.string bl, .string bs] 9)
    rw [World.size_alloc] at this
    exact this
  have HX4 := Lib.hid X4
  have HY4 := Lib.hid Y4
  have HF4 := Lib.hid (HF2.out.later D4)
  have HB4 := Lib.hid (HD2.out.trans (D4.mono HD2.out.size))
  have HRD := Lib.hid (rd_cells (l := [.string bl, .string bs]) Y4)
  have HW4 := Lib.hid hW4
  have HB3' := Lib.hid hb3
  have HB4' := Lib.hid hb4
  clear hW4 hb3 hb4 D4 X4 Y4 HF2 HD2
  go_wp2_with fail
  rw [← HW4.out, ← HB4'.out, ← HB3'.out]
  go_loopw [8, 42] (fun u8 u42 wr => ∃ (k : Nat) (q : ByteArray), u42 = n64 k ∧ k ≤ 2 ∧ u8 = .string q ∧ Hid (q = ⟨(wantK ([l, s].take k)).toArray⟩) ∧ Hid (Below W4.heap.size W4 wr)) (fun _ u42 _ => 2 - (intOf u42).toNat)
  case atStart => exact ⟨0, _, rfl, Nat.zero_le _, rfl, Lib.hid rfl, Lib.hid (Below.refl _ _)⟩
  case round =>
    obtain ⟨k, q, rfl, hk, rfl, hq, hb⟩ := hrel
    by_cases hlt : k < 2
    · obtain ⟨x, hx⟩ : ∃ x, [l, s][k]? = some x := ⟨_, List.getElem?_eq_getElem hlt⟩
      obtain ⟨bx, hbx⟩ : ∃ b : ByteArray, b = ⟨x.toArray⟩ := ⟨_, rfl⟩
      have hv : ([.string bl, .string bs] : List Value)[k]? = some (.string bx) := by
        have h9 : ([.string bl, .string bs] : List Value) = [l, s].map str := by rw [HB1.out, HB2.out]; rfl
        rw [h9, List.getElem?_map, hx, hbx]; rfl
      obtain ⟨_, _, e9, a1⟩ := HRD.out.later hb.out k _ hv
      cases e9
      rw [Nat.zero_add] at a1
      have hxl : x.length ≤ 100 := by
        rcases k with _ | _ | k
        · simp at hx; subst hx; omega
        · simp at hx; subst hx; omega
        · omega
      have hp4 := pl_len x
      obtain ⟨bp, hbp⟩ : ∃ b : ByteArray, b = ⟨(pl x).toArray⟩ := ⟨_, rfl⟩
      have PL := Lib.hid (fun W => lawPlain_calls x (by omega) bx hbx W)
      rw [show str (pl x) = .string bp by rw [hbp]] at PL
      have CU := Lib.hid (fun W => rCut_calls (pl x) (by omega) bp hbp W)
      obtain ⟨cs, hcs⟩ : ∃ cs, cs = cuts (pl x) := ⟨_, rfl⟩
      have hcl := cuts_len (pl x)
      have hcf := cuts_flat (pl x)
      rw [← hcs] at CU hcl hcf
      have hstep : Hid (wantK ([l, s].take (k + 1)) = wantK ([l, s].take k) ++ cs.flatMap shown) := Lib.hid (by
        rw [List.take_add_one, hx]
        unfold wantK
        rw [List.flatMap_append]
        simp [hcs])
      have hwl : (wantK ([l, s].take k)).length ≤ 3200 := by
        refine Nat.le_trans (want_len _) ?_
        have : ([l, s].take k).flatten.length ≤ [l, s].flatten.length := take_flat_len _ _
        simp at this ⊢
        omega
      have t1 : (k : Int) < 2 := by omega
      have HCF := Lib.hid hcf
      clear hx hbx hv hbp hcs hcf
      go_wp2_with fail
      refine (PL.out _).mono ?_
      rintro e w5 ⟨rfl, D5⟩
      go_wp2_with fail
      refine (CU.out _).mono ?_
      rintro e w6 ⟨v6, rfl, R6, D6⟩
      obtain ⟨A6, c6, rfl, _, _, hrd6, _⟩ := R6.rd
      have D56 : Below W4.heap.size W4 w6 := (hb.out.trans (D5.mono hb.out.size)).trans (D6.mono (hb.out.trans (D5.mono hb.out.size)).size)
      have HRD6 := Lib.hid hrd6
      have HD6 := Lib.hid D56
      clear R6 hrd6 D5 D6 D56 a1
      go_wp2_with fail
      go_loopw [8, 50] (fun u8 u50 wx => ∃ (j : Nat) (q2 : ByteArray), u50 = n64 j ∧ j ≤ cs.length ∧ u8 = .string q2 ∧ Hid (q2 = ⟨(wantK ([l, s].take k) ++ (cs.take j).flatMap shown).toArray⟩) ∧ Hid (Below w6.heap.size w6 wx)) (fun _ u50 _ => cs.length - (intOf u50).toNat)
      case atStart => exact ⟨0, q, rfl, Nat.zero_le _, rfl, Lib.hid (by rw [hq.out]; simp), Lib.hid (Below.refl _ _)⟩
      case round =>
        obtain ⟨j, q2, rfl, hj, rfl, hq2, hb2⟩ := hrel
        by_cases hjl : j < cs.length
        · obtain ⟨c, hc⟩ : ∃ c, cs[j]? = some c := ⟨_, List.getElem?_eq_getElem hjl⟩
          obtain ⟨bc, hbc⟩ : ∃ b : ByteArray, b = ⟨c.toArray⟩ := ⟨_, rfl⟩
          obtain ⟨g, o, rfl, a2⟩ := HRD6.out.later hb2.out j (.string bc) (by rw [List.getElem?_map, hc, hbc]; rfl)
          have hcm := mem_flat_len (List.mem_of_getElem? hc)
          rw [HCF.out] at hcm
          have SH := Lib.hid (fun W => rShow_calls c (by omega) bc hbc W)
          obtain ⟨bs', hbs'⟩ : ∃ b : ByteArray, b = ⟨(shown c).toArray⟩ := ⟨_, rfl⟩
          rw [← hbs'] at SH
          have hsl := shown_len (c := c)
          have hfl : ((cs.take j).flatMap shown).length ≤ 1600 := by
            refine Nat.le_trans (shown_flat _) ?_
            have : (cs.take j).flatten.length ≤ cs.flatten.length := take_flat_len _ _
            rw [HCF.out] at this
            omega
          obtain ⟨q3, hq3⟩ : ∃ q3 : ByteArray, q3 = ⟨((wantK ([l, s].take k) ++ (cs.take j).flatMap shown) ++ shown c).toArray⟩ := ⟨_, rfl⟩
          have hadd : ∀ W, (Op.stringOp .add q2 bs').run Tryd.prog W = .ok (.string q3) W := fun W => by
            rw [hq3]
            exact add_str hq2.out hbs' (by rw [List.length_append]; omega) W
          have hq4 : Hid (q3 = ⟨(wantK ([l, s].take k) ++ (cs.take (j + 1)).flatMap shown).toArray⟩) := Lib.hid (by
            rw [hq3, List.take_add_one, hc, List.flatMap_append, List.append_assoc]
            simp)
          have t2 : (j : Int) < (cs.length : Int) := by omega
          clear hc hbc hbs' hq3 hcm
          go_wp2_with fail
          refine (SH.out _).mono ?_
          rintro e w7 ⟨rfl, D7⟩
          go_wp2_with fail
          go_roundw
          case rel => exact ⟨j + 1, q3, by go_num, by omega, rfl, hq4, Lib.hid (hb2.out.trans (D7.mono hb2.out.size))⟩
          case measure => simp [intOf]; omega
        · obtain rfl : j = cs.length := by omega
          have hq4 : Hid (q2 = ⟨(wantK ([l, s].take (k + 1))).toArray⟩) := Lib.hid (by rw [hstep.out, hq2.out, List.take_length])
          go_wp2_with fail
          go_roundw
          case rel => exact ⟨k + 1, q2, by go_num, by omega, rfl, hq4, Lib.hid (HD6.out.trans (hb2.out.mono HD6.out.size))⟩
          case measure => simp [intOf]; omega
    · obtain rfl : k = 2 := by omega
      have hbw := hb.out
      have X5 : FrB wr b3 (.slice A L.length cp) row col := (hbw.block _ (lt_of_heap HX4.out)).trans HX4.out
      obtain ⟨p0, p1, p2, q0, q1, q2⟩ := X5.cells
      have F5 := HF4.out.later hbw
      obtain ⟨A', c', hv', _, _, hrd5, _⟩ := F5.out.rd
      injection hv' with z1 z2 z3
      subst z1
      have HRD5 := Lib.hid hrd5
      have HF5 := Lib.hid F5
      have HB5 := Lib.hid (HB4.out.trans (hbw.mono HB4.out.size))
      clear hbw X5 F5 hrd5 z2 z3 HRD HF4 HX4 HY4 HB4
      go_wp2_with fail
      rename World => w5
      clear p0 p1 p2 q0 q1 q2
      go_loopw [13, 63] (fun u13 u63 wx => ∃ (k : Nat) (g : ByteArray), u63 = n64 k ∧ k ≤ L.length ∧ u13 = .string g ∧ Hid (g = ⟨(gotP (L.take k)).toArray⟩) ∧ Hid (Below w5.heap.size w5 wx)) (fun _ u63 _ => L.length - (intOf u63).toNat)
      case atStart => exact ⟨0, _, rfl, Nat.zero_le _, rfl, Lib.hid (by simp [gotP]), Lib.hid (Below.refl _ _)⟩
      case round =>
        obtain ⟨k, g, rfl, hk, rfl, hg, hb⟩ := hrel
        by_cases hlt : k < L.length
        · obtain ⟨r, hr⟩ : ∃ r, L[k]? = some r := ⟨_, List.getElem?_eq_getElem hlt⟩
          obtain ⟨vx, hvx⟩ : ∃ x, vals[k]? = some x := ⟨_, List.getElem?_eq_getElem (by rw [HF5.out.len]; exact hlt)⟩
          obtain ⟨g1, o1, rfl, a1⟩ := HRD5.out.later hb.out k vx hvx
          have RX := HF5.out.row k vx r hvx hr
          obtain ⟨A1, cx, hv1, _⟩ := RX.rd
          subst hv1
          have hrl := HLC.out r (List.mem_of_getElem? hr)
          have hrs := HLS.out r (List.mem_of_getElem? hr)
          have hgl : (gotP (L.take k)).length ≤ 34560000 := by
            have := got_len (cc := cc) (fun d hd => HLS.out d (List.mem_of_mem_take hd)) (fun d hd => HLC.out d (List.mem_of_mem_take hd)) (by omega) (L := L.take k)
            rw [List.length_take] at this
            omega
          have hstep : Hid (gotP (L.take (k + 1)) = gotP (L.take k) ++ r.flatMap (·.s)) := Lib.hid (by
            rw [List.take_add_one, hr]
            unfold gotP
            rw [List.flatMap_append]
            simp)
          have HRX := Lib.hid RX
          have HRS := Lib.hid hrs
          have t1 : (k : Int) < (L.length : Int) := by omega
          have r5 : (r.length : Int) ≤ 120 := by omega
          clear hr hvx RX hrs hrl
          go_wp2_with fail
          rename World => w6
          clear a1
          go_loopw [13, 69] (fun u13 u69 wy => ∃ (j : Nat) (g2 : ByteArray), u69 = n64 j ∧ j ≤ r.length ∧ u13 = .string g2 ∧ Hid (g2 = ⟨(gotP (L.take k) ++ (r.take j).flatMap (·.s)).toArray⟩) ∧ Hid (Below w6.heap.size w6 wy)) (fun _ u69 _ => r.length - (intOf u69).toNat)
          case atStart => exact ⟨0, g, rfl, Nat.zero_le _, rfl, Lib.hid (by rw [hg.out]; simp), Lib.hid (Below.refl _ _)⟩
          case round =>
            obtain ⟨j, g2, rfl, hj, rfl, hg2, hb2⟩ := hrel
            by_cases hjl : j < r.length
            · obtain ⟨x, hx⟩ : ∃ x, r[j]? = some x := ⟨_, List.getElem?_eq_getElem hjl⟩
              have hbz := hb.out.trans (hb2.out.mono hb.out.size)
              obtain ⟨g3, o3, e3, a2, a3, a4⟩ := (HRX.out.below hbz (Nat.le_refl _)).cell3 rfl hx
              subst e3
              have hg3 : g3 < wr.heap.size := World.block_lt_of_cell? wr _ a2
              obtain ⟨sx, hsx⟩ : ∃ s : ByteArray, s = ⟨x.s.toArray⟩ := ⟨_, rfl⟩
              replace a2 : wr.cell? ⟨g3, o3 + j * 3, none⟩ = some (.string sx) := by rw [hsx]; exact a2
              have hxs := HRS.out x (List.mem_of_getElem? hx)
              have hfl := sm_flat (fun d hd => HRS.out d (List.mem_of_mem_take hd)) (l := r.take j)
              rw [List.length_take] at hfl
              obtain ⟨g4, hg4⟩ : ∃ q3 : ByteArray, q3 = ⟨((gotP (L.take k) ++ (r.take j).flatMap (·.s)) ++ x.s).toArray⟩ := ⟨_, rfl⟩
              have hadd : ∀ W, (Op.stringOp .add g2 sx).run Tryd.prog W = .ok (.string g4) W := fun W => by
                rw [hg4]
                exact add_str hg2.out hsx (by rw [List.length_append]; omega) W
              have hq4 : Hid (g4 = ⟨(gotP (L.take k) ++ (r.take (j + 1)).flatMap (·.s)).toArray⟩) := Lib.hid (by
                rw [hg4, List.take_add_one, hx, List.flatMap_append, List.append_assoc]
                simp)
              have t2 : (j : Int) < (r.length : Int) := by omega
              clear hx hsx hg4 hbz hxs hfl
              go_wp2_with fail
              go_roundw
              case rel => exact ⟨j + 1, g4, by go_num, by omega, rfl, hq4, Lib.hid (hb2.out.alloc hb2.out.size _)⟩
              case measure => simp [intOf]; omega
            · obtain rfl : j = r.length := by omega
              have hq4 : Hid (g2 = ⟨(gotP (L.take (k + 1))).toArray⟩) := Lib.hid (by rw [hstep.out, hg2.out, List.take_length])
              go_wp2_with fail
              go_roundw
              case rel => exact ⟨k + 1, g2, by go_num, by omega, rfl, hq4, Lib.hid (hb.out.trans (hb2.out.mono hb.out.size))⟩
              case measure => simp [intOf]; omega
        · obtain rfl : k = L.length := by omega
          have hbw := HB5.out.trans (hb.out.mono HB5.out.size)
          have hgf := hg.out
          rw [List.take_length] at hgf
          have hqf := hq.out
          rw [show [l, s].take 2 = [l, s] from rfl] at hqf
          have hgl : (gotP L).length ≤ 34560000 := by
            have := got_len (cc := cc) HLS.out HLC.out (by omega) (L := L)
            omega
          have hwl : (wantK [l, s]).length ≤ 3200 := by
            refine Nat.le_trans (want_len _) ?_
            simp; omega
          have N1 := Lib.hid (fun W => noBlanks_calls (gotP L) (by omega) g hgf W)
          have N2 := Lib.hid (fun W => noBlanks_calls (wantK [l, s]) (by omega) q hqf W)
          rw [LAW.out] at N1
          obtain ⟨qq, hqq⟩ : ∃ b : ByteArray, b = ⟨(nbS (wantK [l, s])).toArray⟩ := ⟨_, rfl⟩
          rw [show str (nbS (wantK [l, s])) = .string qq by rw [hqq]] at N1 N2
          have hb9 : (qq.toList == qq.toList) = true := beq_self_eq_true _
          have HBW := Lib.hid hbw
          clear hgf hqf hgl hwl hqq hbw
          go_wp2_with fail
          refine (AL.out _ HBW.out).mono ?_
          rintro e w7 ⟨rfl, D7⟩
          have B7 := HBW.out.trans (D7.mono HBW.out.size)
          go_wp2_with fail
          refine (N1.out _).mono ?_
          rintro e w8 ⟨rfl, D8⟩
          have B8 := B7.trans (D8.mono B7.size)
          go_wp2_with fail
          refine (N2.out _).mono ?_
          rintro e w9 ⟨rfl, D9⟩
          have B9 := B8.trans (D9.mono B8.size)
          go_wp2_with fail
          go_ret
          exact ⟨rfl, B9⟩
end Go.Proofs.YtfgjhfmgacopoaaDoor
