import Derived.Test.YtphfopbklebeoaaLw3
import Derived.Test.YtphfopbklebeoaaPd
import Derived.Test.YtphfopbklebeoaaM2
namespace Go.Proofs.Ytphfopbklebeoaa
open Go.RowKit
/-- No block in common. -/
def Apart (v v' : Value) : Prop := ∀ k, v.ownBlock = some k → v'.ownBlock ≠ some k
theorem Apart.symm {v v' : Value} (h : Apart v v') : Apart v' v := fun k e e' => h k e' e
/-- Behind an append: the new slice is apart from what the old one was apart from. -/
theorem Apart.grown {W : World} {v v' u : Value} {o : Obj} {B : Nat} {e : TypeId} {sz n : Nat} {xs : List Value} (h : Apart v u) (hb : v'.ownBlock = v.ownBlock ∨ v'.ownBlock = some (W.alloc o).heap.size) (hu : Row W B e sz u n xs) : Apart v' u := by
  intro k hk e'
  rcases hb with hb | hb
  · exact h k (hb.symm.trans hk) e'
  · rw [hb] at hk
    simp at hk
    have := (hu.lt k e').2
    omega
theorem Apart.grown' {W : World} {v v' u : Value} {B : Nat} {e : TypeId} {sz n : Nat} {xs : List Value} (h : Apart v u) (hb : v'.ownBlock = v.ownBlock ∨ v'.ownBlock = some W.heap.size) (hu : Row W B e sz u n xs) : Apart v' u := by
  intro k hk e'
  rcases hb with hb | hb
  · exact h k (hb.symm.trans hk) e'
  · rw [hb] at hk
    cases hk
    have := (hu.lt _ e').2
    omega
theorem Apart.of_eq {v v' u : Value} (h : Apart v u) (hb : v'.ownBlock = v.ownBlock) : Apart v' u := fun k hk e => h k (hb.symm.trans hk) e
/-- The feed, its row told. -/
def FeedAt (w : World) (g : Nat) (v : Value) (l : Bs) : Prop :=
  w.heap[g]? = some (.cells #[v] 39 (0, 0)) ∧ Row w (g + 1) 5 1 v l.length (l.map byt)
theorem FeedAt.fr {w w' : World} {g : Nat} {v : Value} {l : Bs} {S : Nat → Prop} (h : FeedAt w g v l) (hf : Fr S w w') (h1 : ¬ S g) (h2 : ∀ k, v.ownBlock = some k → ¬ S k) : FeedAt w' g v l :=
  ⟨hf.heap h.1 h1, h.2.fr hf h2⟩
theorem FeedAt.later {w w' : World} {g : Nat} {v : Value} {l : Bs} (h : FeedAt w g v l) (hb : Below w.heap.size w w') : FeedAt w' g v l :=
  ⟨(hb.block g (lt_of_heap h.1)).trans h.1, h.2.below hb (Nat.le_refl _)⟩
def FeedsInv (w : World) (b : Bs) (u4 u5 u19 : Value) (wr : World) : Prop :=
  ∃ (p t : Bs) (os : List Nat) (ws : Bs) (vf : Value), u19 = .int .i64 p.length ∧ b = p ++ t ∧ (∀ t', runes (p ++ t') = os ++ runes (ws ++ t')) ∧ whole ws = false ∧
    FeedAt wr w.heap.size vf ws ∧ Row wr (w.heap.size + 1) 21 1 u4 os.length (os.map i32) ∧ Row wr (w.heap.size + 1) 5 1 u5 ws.length (ws.map byt) ∧
    Apart u4 u5 ∧ Apart u4 vf ∧ Apart u5 vf ∧ Below w.heap.size w wr
def InInv (w1 : World) (g : Nat) (l1 : Bs) (v5 : Value) (u5 u9 : Value) (wr : World) : Prop :=
  ∃ (lk : Bs) (xs : List Nat) (A : Option Addr) (c : Nat), u5 = .slice A lk.length c ∧ u9 = .int .i64 xs.length ∧ Row wr (g + 1) 5 1 u5 lk.length (lk.map byt) ∧
    u5.ownBlock = v5.ownBlock ∧ Below w1.heap.size w1 wr ∧ xs ++ (drain lk).1 = (drain l1).1 ∧ (drain lk).2 = (drain l1).2 ∧ xs.length + lk.length ≤ l1.length
set_option maxHeartbeats 3200000 in
set_option maxRecDepth 100000 in
theorem SignFeeds_walk (A : Option Addr) (c : Nat) (b : Bs) (w : World) (hr : RdB w A b) (hlc : b.length ≤ c) :
    Calls Try.prog 6 #[.slice A b.length c] w fun e w' => e = .returned (.bool true) ∧ Below w.heap.size w w' := by
  by_cases hbig : 1000 < b.length
  · go_enter Try.func6, Try.ntmps6
    go_wp2_with fail
    refine (alive_calls _).mono ?_
    rintro e w1 ⟨rfl, hb⟩
    go_wp2
    go_ret
    exact ⟨rfl, hb⟩
  have hl : b.length ≤ 1000 := by omega
  clear hbig
  have HR := Lib.hid hr
  clear hr
  go_enter Try.func6, Try.ntmps6
  go_wp2_with fail
  go_loopw [4, 5, 19] (fun u4 u5 u19 wr => FeedsInv w b u4 u5 u19 wr) (fun _ _ u19 _ => b.length - (intOf u19).toNat)
  case atStart =>
    exact ⟨[], b, [], [], .slice none 0 0, rfl, rfl, fun t => rfl, rfl, ⟨heap_alloc_new w _, Row.nil _ _ _ _⟩, Row.nil _ _ _ _, Row.nil _ _ _ _, fun k e => by simp [Value.ownBlock] at e, fun k e => by simp [Value.ownBlock] at e, fun k e => by simp [Value.ownBlock] at e, (Below.refl _ _).alloc (Nat.le_refl _) _⟩
  case round =>
    obtain ⟨wo, rfl⟩ : ∃ wo : World, wo = wr := ⟨_, rfl⟩
    obtain ⟨p, t, os, ws, vf, rfl, hbq, hrun, hws, hfeed, hrow4, hrow5, ap45, ap4f, ap5f, hB⟩ := hrel
    have hos : os.length ≤ p.length := by
      have h1 := hrun []
      have h2 := runes_length p
      rw [List.append_nil] at h1
      have := congrArg List.length h1
      rw [List.length_append] at this; omega
    have hw3 := part_le hws
    have hpl : p.length + t.length = b.length := by rw [hbq]; simp
    have HRUN := Lib.hid hrun
    have HBQ := Lib.hid hbq
    have HWS := Lib.hid hws
    have HPL := Lib.hid hpl
    have hple : p.length ≤ b.length := by omega
    have hBs := hB.size
    clear hrun hbq hws hpl
    cases t with
    | cons x t =>
      have hlt : p.length < b.length := by have := HPL.out; simp at this; omega
      obtain ⟨ba, off, rfl, hcell⟩ := RdB.cell (HR.out.later hB) (by intro e; subst e; simp at hlt)
      have hc1 := hcell p.length hlt
      have hat : at' b p.length = x.toNat := by rw [HBQ.out, at_app, if_neg (by omega), Nat.sub_self]; rfl
      rw [hat] at hc1
      clear hcell hat
      go_wp2_with (at_builtin; refine wpList_append_row _ rfl _ _ 22 rfl (w.heap.size + 1) 5 1 1 _ Try.underlying22 Try.info_u8 rfl (by decide) u5 _ _ rfl (hrow5.alloc _) _ 1 1 [byt x] rfl rfl (Rd.new1 _ _ _) (by simp [Value.oneCell']) (by omega) (by simp only [maxLen]; omega) (by simp; have := lt_of_heap hfeed.1; omega) ?_; intro A1 c1 w1 hrow1 hg1 hb1)
      have hg := lt_of_heap hfeed.1
      have hfeed1 : FeedAt w1 w.heap.size vf ws := ⟨app_heap hg1 hfeed.1 (fun e => by have := (hrow5.lt _ e).1; omega), app_row hg1 hfeed.2 (fun k hk e => ap5f k e hk)⟩
      have hrow41 := app_row hg1 hrow4 (fun k hk e => ap45 k hk e)
      have ap14 := Apart.grown ap45.symm hb1 hrow4
      have ap1f := Apart.grown ap5f hb1 hfeed.2
      have hB1 := app_below hB hBs hg1 (fun k e => by have := (hrow5.lt _ e).1; omega)
      clear hrow5 hrow4 hfeed ap45 ap5f hb1 hg1
      obtain ⟨l1, hl1⟩ : ∃ y : Bs, y = ws ++ [x] := ⟨_, rfl⟩
      have hl1l : ws.length + 1 = l1.length := by rw [hl1]; simp
      have hrow1' : Row w1 (w.heap.size + 1) 5 1 (.slice A1 l1.length c1) l1.length (l1.map byt) := by
        rw [← hl1l, hl1, List.map_append]; exact hrow1
      have ap14' : Apart (.slice A1 l1.length c1) u4 := by rw [← hl1l]; exact ap14
      have ap1f' : Apart (.slice A1 l1.length c1) vf := by rw [← hl1l]; exact ap1f
      simp only [hl1l]
      clear hrow1 ap14 ap1f
      have hdl := drain_len l1
      have HL1 := Lib.hid hl1
      have hg1s := lt_of_heap hfeed1.1
      refine (Put_calls w.heap.size 0 _ _ vf ws x (w.heap.size + 1) w1 hfeed1.1 rfl hfeed1.2 (fun e => by have := (hfeed1.2.lt _ e).1; omega) (by omega) (by omega)).mono ?_
      rintro e w2 ⟨r, vf2, rfl, p1, p2, p3, p4, p5⟩
      rw [← hl1] at p1 p3
      clear hl1
      have hfeed2 : FeedAt w2 w.heap.size vf2 (drain l1).2 := ⟨by simpa using p2, p3⟩
      have hrow42 := hrow41.fr p4 (fun k hk e => by
        rcases e with e | e
        · have := (hrow41.lt _ hk).1; omega
        · exact ap4f k hk e)
      have hrow12 := hrow1'.fr p4 (fun k hk e => by
        rcases e with e | e
        · have := (hrow1'.lt _ hk).1; omega
        · exact ap1f' k hk e)
      have ap4f2 : Apart u4 vf2 := fun k hk e => by
        rcases (p5 k e).1 with h | h
        · exact ap4f k hk h
        · have := (hrow41.lt _ hk).2; omega
      have ap1f2 : Apart (.slice A1 l1.length c1) vf2 := fun k hk e => by
        rcases (p5 k e).1 with h | h
        · exact ap1f' k hk h
        · have := (hrow1'.lt _ hk).2; omega
      have hB2 : Below w.heap.size w w2 := hB1.trans (p4.below (by omega) (fun k _ e => by
        rcases e with e | e
        · omega
        · have := (hfeed1.2.lt _ e).1; omega))
      obtain ⟨A8, c8, rfl, _, _, hrd8, _⟩ := p1.rd
      have HFEED := Lib.hid hfeed2
      have HRD8 := Lib.hid hrd8
      have hz2 := hB2.size
      have hg2 := lt_of_heap hfeed2.1
      clear p1 p2 p3 p4 p5 hfeed1 hrow41 hrow1' ap4f ap1f' hfeed2 hrd8
      have HROW4 := Lib.hid hrow42
      have AP := Lib.hid (And.intro ap14' (And.intro ap4f2 ap1f2))
      clear hrow42 ap14' ap4f2 ap1f2
      go_wp2_with fail
      go_loopw [5, 9] (fun v5 v9 wq => InInv w2 w.heap.size l1 (.slice A1 l1.length c1) v5 v9 wq) (fun v5 _ _ => lenOf v5)
      case atStart => exact ⟨l1, [], A1, c1, rfl, rfl, hrow12, rfl, Below.refl _ _, rfl, rfl, by simp⟩
      case round =>
        obtain ⟨lk, xs, Ak, ck, rfl, rfl, hrowk, hbk, hBk, hx1, hx2, hkl⟩ := hrel
        obtain ⟨Ak', ck', e, hnk, hmk, hrdk, _⟩ := hrowk.rd
        cases e
        have HX1 := Lib.hid hx1
        have HX2 := Lib.hid hx2
        have hzq := hBk.size
        clear hx1 hx2
        by_cases hw : whole lk = true
        · have hne := whole_ne hw
          have hd := drain_whole hw
          have hdle := dec_le hne
          have hdp := dec_pos lk
          have hn := nxt_ne hne
          have hlx : xs.length < (drain l1).1.length := by
            have := congrArg List.length HX1.out
            rw [hd, List.length_append] at this
            simp at this; omega
          have hgx : (drain l1).1[xs.length]? = some (dec lk).1 := by
            rw [← HX1.out, hd, List.getElem?_append_right (Nat.le_refl _), Nat.sub_self]; rfl
          have hcg : ∃ b8 o8, A8 = some ⟨b8, o8, none⟩ ∧ w2.cell? ⟨b8, o8 + xs.length, none⟩ = some (i32 (dec lk).1) := HRD8.out xs.length _ (by rw [List.getElem?_map, hgx]; rfl)
          obtain ⟨b8, o8', rfl, hcg⟩ := hcg
          have hcgl := World.block_lt_of_cell? w2 _ hcg
          have hdv : (dec lk).1 ≤ 2147483647 := by have := (valid_iff _).1 (dec_val lk); omega
          have hwr : IntKind.i64.wrap ((dec lk).1 : Int) = ((dec lk).1 : Int) := IntWalk.i64_in _ (by omega)
          have HD := Lib.hid hd
          clear hd hgx
          go_wp2_with (first
            | (go_at_call 14; refine (rWhole_calls Ak ck lk wr hrdk hnk (by omega)).mono ?_; rintro e w3 ⟨rfl, hb3⟩; rw [hw]; have z3 := hb3.size)
            | (go_at_call 12; refine (rNext_calls Ak ck lk w3 (Rd.later hrdk hb3) (by omega)).mono ?_; rintro e w4 ⟨rfl, hb4⟩; rw [hn]; have z4 := hb4.size; have hB4 : Below w2.heap.size w2 w4 := (hBk.trans (hb3.mono hzq)).trans (hb4.mono (by omega)); have hcg4 := (hB4.cell (p := ⟨b8, o8' + xs.length, none⟩) hcgl).trans hcg))
          go_roundw
          case rel =>
            have hf := (hrowk.below (hb3.trans (hb4.mono z3)) (Nat.le_refl _)).from_ rfl (dec lk).2 hdle
            have hob := ownBlock_from (A := Ak) (n := lk.length) (c := ck) (k := (dec lk).2)
            generalize hA4 : (if ck = (dec lk).2 then Ak else Ak.map (fun x => x.add (dec lk).2)) = A4 at hf hob ⊢
            have hl4 : (lk.drop (dec lk).2).length = lk.length - (dec lk).2 := by simp
            rw [← hl4] at hf hob ⊢
            refine ⟨lk.drop (dec lk).2, xs ++ [(dec lk).1], A4, ck - (dec lk).2, rfl, by simp, by rw [List.map_drop]; exact hf, hob.trans hbk, hB4, ?_, ?_, by simp; omega⟩
            · rw [← HX1.out, HD.out]; simp
            · rw [← HX2.out, HD.out]
          case measure => simp [lenOf]; omega
        · have hw' := Bool.eq_false_iff.2 hw
          have hd := drain_not hw'
          have hx1 := HX1.out
          have hx2 : lk = (drain l1).2 := by have := HX2.out; rw [hd] at this; exact this
          rw [hd, List.append_nil] at hx1
          have hxl : xs.length = (drain l1).1.length := by rw [hx1]
          have hk3 := part_le hw'
          have hfd0 := HFEED.out
          rw [← hx2] at hfd0
          obtain ⟨Af, cf, rfl, _, _, _, _⟩ := hfd0.2.rd
          have hfd : FeedAt w2 w.heap.size (.slice Af lk.length cf) lk := hfd0
          have HX2' := Lib.hid hx2
          have HX1' := Lib.hid hx1
          clear hx1 hx2 hd
          by_cases hk0 : 0 < lk.length
          · have hdk : decide (0 < lk.length) = true := decide_eq_true hk0
            go_wp2_with (first
              | (go_at_call 14; refine (rWhole_calls Ak ck lk wr hrdk hnk (by omega)).mono ?_; rintro e w3 ⟨rfl, hb3⟩; rw [hw']; have hB3 : Below w2.heap.size w2 w3 := hBk.trans (hb3.mono hzq); have hfc3 := row_cell (off := 0) (hfd.later hB3).1 rfl; have hrow43 := HROW4.out.below hB3 (Nat.le_refl _); have z3 := hB3.size; have hrd83 := Rd.later HRD8.out hB3)
              | (go_at_call 22; refine (Waits_calls w.heap.size 0 Af lk.length cf w3 hfc3).mono ?_; rintro e w3' ⟨rfl, rfl⟩; rw [hdk])
              | (at_builtin; refine wpList_append_row _ rfl _ _ 29 rfl (w.heap.size + 1) 21 1 4 _ Try.underlying29 Try.info_i32 rfl (by decide) u4 _ _ rfl hrow43 A8 _ _ ((drain l1).1.map i32) rfl (by simp) hrd83 (by simp [Value.oneCell']) (by omega) (by simp only [maxLen]; omega) (by omega) ?_; intro A5 c5 w5 hrow5 hg5 hb5))
            obtain ⟨aq, ar, at5⟩ := AP.out
            go_roundw
            case rel =>
              have hB3 : Below w2.heap.size w2 w3 := hBk.trans (hb3.mono hzq)
              have hf3 := hfd.later hB3
              have hrk3 := hrowk.below hb3 (Nat.le_refl _)
              have ak4 : Apart (.slice Ak lk.length ck) u4 := aq.of_eq hbk
              have akf : Apart (.slice Ak lk.length ck) (.slice Af lk.length cf) := at5.of_eq hbk
              refine ⟨p ++ [x], t, os ++ (drain l1).1, lk, .slice Af lk.length cf, by simp, by rw [HBQ.out]; simp, fun t' => ?_, hw', hf3.fr (Fr.of_grown hg5) (fun e => by have := (hrow43.lt _ e).1; omega) (fun k e e' => ar k e' e), by simpa using hrow5, hrk3.fr (Fr.of_grown hg5) (fun k e e' => ak4 k e e'), ?_, ?_, akf, ?_⟩
              · rw [List.append_assoc, HRUN.out, List.append_assoc, HX2'.out, ← drain_runes, HL1.out, List.append_assoc]
              · exact Apart.grown' ak4.symm (by simpa using hb5) hrk3
              · exact Apart.grown' ar (by simpa using hb5) hf3.2
              · exact (hB2.trans (hB3.mono hz2)).grown hg5 (by omega) (fun k e => by have := (hrow43.lt _ e).1; omega)
            case measure => simp [intOf]; omega
          · have hdk : decide (0 < lk.length) = false := decide_eq_false hk0
            go_wp2_with (first
              | (go_at_call 14; refine (rWhole_calls Ak ck lk wr hrdk hnk (by omega)).mono ?_; rintro e w3 ⟨rfl, hb3⟩; rw [hw']; have hB3 : Below w2.heap.size w2 w3 := hBk.trans (hb3.mono hzq); have hfc3 := row_cell (off := 0) (hfd.later hB3).1 rfl; have hrow43 := HROW4.out.below hB3 (Nat.le_refl _); have z3 := hB3.size; have hrd83 := Rd.later HRD8.out hB3)
              | (go_at_call 22; refine (Waits_calls w.heap.size 0 Af lk.length cf w3 hfc3).mono ?_; rintro e w3' ⟨rfl, rfl⟩; rw [hdk])
              | (at_builtin; refine wpList_append_row _ rfl _ _ 29 rfl (w.heap.size + 1) 21 1 4 _ Try.underlying29 Try.info_i32 rfl (by decide) u4 _ _ rfl hrow43 A8 _ _ ((drain l1).1.map i32) rfl (by simp) hrd83 (by simp [Value.oneCell']) (by omega) (by simp only [maxLen]; omega) (by omega) ?_; intro A5 c5 w5 hrow5 hg5 hb5))
            obtain ⟨aq, ar, at5⟩ := AP.out
            go_roundw
            case rel =>
              have hB3 : Below w2.heap.size w2 w3 := hBk.trans (hb3.mono hzq)
              have hf3 := hfd.later hB3
              have hrk3 := hrowk.below hb3 (Nat.le_refl _)
              have ak4 : Apart (.slice Ak lk.length ck) u4 := aq.of_eq hbk
              have akf : Apart (.slice Ak lk.length ck) (.slice Af lk.length cf) := at5.of_eq hbk
              refine ⟨p ++ [x], t, os ++ (drain l1).1, lk, .slice Af lk.length cf, by simp, by rw [HBQ.out]; simp, fun t' => ?_, hw', hf3.fr (Fr.of_grown hg5) (fun e => by have := (hrow43.lt _ e).1; omega) (fun k e e' => ar k e' e), by simpa using hrow5, hrk3.fr (Fr.of_grown hg5) (fun k e e' => ak4 k e e'), ?_, ?_, akf, ?_⟩
              · rw [List.append_assoc, HRUN.out, List.append_assoc, HX2'.out, ← drain_runes, HL1.out, List.append_assoc]
              · exact Apart.grown' ak4.symm (by simpa using hb5) hrk3
              · exact Apart.grown' ar (by simpa using hb5) hf3.2
              · exact (hB2.trans (hB3.mono hz2)).grown hg5 (by omega) (fun k e => by have := (hrow43.lt _ e).1; omega)
            case measure => simp [intOf]; omega
    | nil =>
      have hpl : p.length = b.length := by have := HPL.out; simpa using this
      have hpb : p = b := by have := HBQ.out; rw [List.append_nil] at this; exact this.symm
      have HPB := Lib.hid hpb
      clear hpb
      have hrw := runes_length ws
      obtain ⟨Af, cf, rfl, _, _, hrdf, _⟩ := hfeed.2.rd
      obtain ⟨A5, c5, rfl, hn5, _, hrd5, _⟩ := hrow5.rd
      have hg := lt_of_heap hfeed.1
      have hz := hB.size
      go_wp2_with fail
      refine (Flush_calls w.heap.size 0 _ _ Af cf ws wo hfeed.1 rfl hrdf (by omega)).mono ?_
      rintro e w1 ⟨r, rfl, p1, p2, p3⟩
      obtain ⟨A7, c7, rfl, _, _, hrd7, _⟩ := p1.rd
      have hB1 : Below w.heap.size w w1 := hB.trans (p3.below (by omega) (fun k _ e => by omega))
      have hrow51 := hrow5.fr p3 (fun k hk e => by have := (hrow5.lt _ hk).1; omega)
      have hrow41 := hrow4.fr p3 (fun k hk e => by have := (hrow4.lt _ hk).1; omega)
      have hfe1 : w1.cell? ⟨w.heap.size, 0, none⟩ = some (.slice none 0 0) := row_cell p2 rfl
      have HROW41 := Lib.hid hrow41
      obtain ⟨A5', c5', e, _, _, hrd51, _⟩ := hrow51.rd
      cases e
      have z1 := hB1.size
      have hg1 := lt_of_heap p2
      clear hfeed hrow4 hrow5 ap45 ap4f ap5f hrdf hrd5 p1 p2 p3 hrow41 hrow51
      go_wp2_with fail
      refine (rRunes_calls A5 c5 ws w1 hrd51 hn5 (by omega)).mono ?_
      rintro e w2 ⟨v2, rfl, hrow2, hb2⟩
      obtain ⟨A2, c2, rfl, _, _, hrd2, _⟩ := hrow2.rd
      have z2 := hb2.size
      clear hrow2
      go_wp2_with fail
      refine (same_calls A7 A2 c7 c2 (runes ws) (runes ws) w2 (Rd.later hrd7 hb2) hrd2 (by omega) (by omega) (runes_le ws)).mono ?_
      rintro e w3 ⟨rfl, hb3⟩
      rw [decide_eq_true rfl]
      have hB3 : Below w1.heap.size w1 w3 := hb2.trans (hb3.mono hb2.size)
      have hfe3 := (hB3.cell (p := ⟨w.heap.size, 0, none⟩) hg1).trans hfe1
      go_wp2_with fail
      refine (Waits_calls w.heap.size 0 none 0 0 w3 hfe3).mono ?_
      rintro e w3' ⟨rfl, rfl⟩
      rw [show decide (0 < 0) = false from rfl]
      go_wp2_with fail
      refine (alive_calls w3).mono ?_
      rintro e w4 ⟨rfl, hb4⟩
      have hB4 : Below w1.heap.size w1 w4 := hB3.trans (hb4.mono hB3.size)
      have hrow44 := HROW41.out.below hB4 (Nat.le_refl _)
      have hrd74 := Rd.later hrd7 hB4
      have z4 := hB4.size
      go_wp2_with (at_builtin; refine wpList_append_rowG _ rfl _ _ 29 rfl (w.heap.size + 1) 21 1 4 _ Try.underlying29 Try.info_i32 rfl (by decide) u4 _ _ rfl hrow44 A7 _ _ ((runes ws).map i32) rfl (by simp) hrd74 (by simp [Value.oneCell']) (by omega) (by simp only [maxLen]; omega) (by omega) ?_; intro A6 c6 w6 hrow6 hg6 hb6)
      obtain ⟨rs, hrs⟩ : ∃ y : List Nat, y = os ++ runes ws := ⟨_, rfl⟩
      have hrb : runes b = rs := by
        have := HRUN.out []
        rw [List.append_nil, List.append_nil, HPB.out] at this
        rw [this, hrs]
      have hl6 : os.length + (runes ws).length = rs.length := by rw [hrs]; simp
      obtain ⟨A6', c6', e, _, _, hrd6, _⟩ := hrow6.rd
      cases e
      have hrd6' : Rd w6 A6 (rs.map i32) := by rw [hrs]; simpa using hrd6
      have hB6 : Below w.heap.size w w6 := (hB1.trans (hB4.mono z1)).grown hg6 (by omega) (fun k e => by have := (hrow44.lt _ e).1; omega)
      have hrsl : rs.length ≤ b.length := by rw [← hrb]; exact runes_length b
      have hle : ∀ r ∈ rs, r ≤ 4294967296 := by rw [← hrb]; exact runes_le b
      have HRB := Lib.hid hrb
      simp only [hl6]
      clear hl6 hrs hrow6 hrow44 hrb hrd6 hle
      refine (rRunes_calls A c b w6 (HR.out.later hB6) hlc (by omega)).mono ?_
      rintro e w7 ⟨v7, rfl, hrow7, hb7⟩
      rw [HRB.out] at hrow7
      obtain ⟨A8, c8, rfl, _, _, hrd8, _⟩ := hrow7.rd
      clear hrow7
      go_wp2_with fail
      refine (same_calls A6 A8 c6 c8 rs rs w7 (Rd.later hrd6' hb7) hrd8 (by omega) (by omega) (by rw [← HRB.out]; exact runes_le b)).mono ?_
      rintro e w8 ⟨rfl, hb8⟩
      rw [decide_eq_true rfl]
      go_wp2
      go_ret
      exact ⟨rfl, (hB6.trans (hb7.mono hB6.size)).trans (hb8.mono (Nat.le_trans hB6.size hb7.size))⟩
end Go.Proofs.Ytphfopbklebeoaa
