import Derived.Test.YtkpfendodmfeoaaTl1
import Derived.BigFrameIn
namespace Go.Proofs.Ytkpfendodmfeoaa
set_option linter.unusedVariables false
set_option linter.unusedSimpArgs false
open Go.RowKit Go.Shelf
attribute [local go_sem] Oper.semAt_some
/-- What stands in TrieEach's rounds. -/
structure EaI (W0 : World) (b9 : Nat) (most : Int) (pre : List Kl) (W : World) : Prop where
  fr : Fr (fun b => b = b9) W0 W
  box : W.heap[b9]? = some (.cells #[n64 pre.length] 3 (0, 0))
  few : 1 ≤ most → (pre.length : Int) < most
theorem EaI.own {W0 : World} {b9 B : Nat} {most : Int} (hB : W0.heap.size ≤ B) : OwnFrom B (EaI W0 b9 most) := fun s W W' row h hg hr =>
  ⟨fr_own (β := Unit) hB () W W' row h.fr hg hr, (cells_same hg (fun r e => (hr r e).2) h.box).trans h.box, h.few⟩
structure EaL (W0 : World) (b9 : Nat) (most : Int) (c : Code) (pre : List Kl) (W : World) : Prop where
  code : c = .exit 0
  fr : Fr (fun b => b = b9) W0 W
  box : W.heap[b9]? = some (.cells #[n64 pre.length] 3 (0, 0))
  most_ : (pre.length : Int) = most
  one : 1 ≤ most
theorem EaL.own {W0 : World} {b9 B : Nat} {most : Int} (hB : W0.heap.size ≤ B) (c : Code) : OwnFrom B (EaL W0 b9 most c) := fun s W W' row h hg hr =>
  ⟨h.code, fr_own (β := Unit) hB () W W' row h.fr hg hr, (cells_same hg (fun r e => (hr r e).2) h.box).trans h.box, h.most_, h.one⟩
set_option maxHeartbeats 3200000 in
set_option maxRecDepth 100000 in
theorem TrieEach_walk (w : World) (A : Option Addr) (c : Nat) (ops : List OpT) (hr : Rd w A (flatO ops)) (hA : ∀ a, A = some a → ops ≠ [] → a.block < w.heap.size) (hl : ops.length ≤ 140737488351232) (hk : ∀ o ∈ ops, o.key.length ≤ 140737488351232) (s : ByteArray) (hsz : s.size ≤ maxLen) (most : Int) (hm1 : -9223372036854775808 ≤ most) (hm2 : most ≤ 9223372036854775807) :
    Calls Try.prog 8 #[.slice A ops.length c, .string s, .int .i64 most] w fun e w' => e = .returned (.bool true) ∧ Below w.heap.size w w' := by
  unfold maxLen at hsz
  obtain ⟨p, hs⟩ : ∃ l : Bs, s = ⟨l.toArray⟩ := ⟨s.data.toList, by cases s; rfl⟩
  have hsl : s.size = p.length := by rw [hs, str_of]
  obtain ⟨wx, hwx⟩ : ∃ W, W = w.alloc (.cells #[.int .i64 most] 3) := ⟨_, rfl⟩
  have hbx : Below w.heap.size w wx := by rw [hwx]; exact (Below.refl _ w).alloc (Nat.le_refl _) _
  have hx0 : wx.heap[w.heap.size]? = some (.cells #[.int .i64 most] 3 (0, 0)) := by rw [hwx]; exact heap_alloc_new w _
  have hzx : wx.heap.size = w.heap.size + 1 := by rw [hwx]; simp
  have qf := few_calls wx A c ops (hr.later hbx) (fun a ha hne => by have := hA a ha hne; omega) hl hk
  have QF := Lib.hid qf
  have HR := Lib.hid hr
  have HA := Lib.hid hA
  have HS := Lib.hid hs
  have HSL := Lib.hid hsl
  have HWX := Lib.hid hwx
  have HBX := Lib.hid hbx
  have HX0 := Lib.hid hx0
  clear qf hr hA hk hs hsl hwx hbx hx0
  refine (callsIn_wide (n := 3)).1 ?_
  refine callsIn_of_wp_marks Try.func8 rfl trivial ?_ rfl
  simp only [Try.ntmps8, List.size_toArray, List.length_cons, List.length_nil, Nat.reduceAdd, Nat.reduceSub, Array.replicate_succ, Array.replicate_zero, List.push_toArray, List.append_toArray, List.nil_append, List.cons_append]
  gi_wp2_with fail
  rw [← HWX.out]
  refine ⟨trivial, ?_⟩
  gi_at_call 16
  refine (callsIn_wide.2 QF.out).mono ?_
  rintro e w1 ⟨rfl, hb1⟩
  have B1 := HBX.out.trans (hb1.mono (by omega))
  have h1x : w1.heap[w.heap.size]? = some (.cells #[.int .i64 most] 3 (0, 0)) := (hb1.block _ (by omega)).trans HX0.out
  have H1X := Lib.hid h1x
  clear h1x
  cases hfw : fewB ops with
  | false =>
    clear hfw
    gi_wp2_with (refine ⟨trivial, ?_⟩; gi_at_call 10; refine (callsIn_wide.2 (alive_calls _)).mono ?_; rintro e w2 ⟨rfl, hb2⟩)
    refine ⟨_, results_tmp rfl _ _ _, rfl, B1.trans (hb2.mono B1.size)⟩
  | true =>
    obtain ⟨h80, hk⟩ := few_of hfw
    have hqb := begin_calls w1 A c ops (HR.out.later B1) (fun a ha hne => Nat.lt_of_lt_of_le (HA.out a ha hne) B1.size) h80 hk
    have hkeys : KeysLe 9000 (opsDo ops) := opsDo_keys fun o ho => Nat.le_trans (hk o ho) (by omega)
    have hlen : (opsDo ops).length ≤ 80 := Nat.le_trans (opsDo_len _) h80
    have QB := Lib.hid hqb
    have HKK := Lib.hid hkeys
    clear hfw hk hqb hkeys
    by_cases h200 : 200 < s.size
    · gi_wp2_with (refine ⟨trivial, ?_⟩; gi_at_call 10; refine (callsIn_wide.2 (alive_calls _)).mono ?_; rintro e w2 ⟨rfl, hb2⟩)
      refine ⟨_, results_tmp rfl _ _ _, rfl, B1.trans (hb2.mono B1.size)⟩
    have hpl : p.length ≤ 200 := by have := HSL.out; omega
    have hsx : decide ((200 : Int) < (s.size : Int)) = false := by simp; omega
    gi_wp2_with fail
    refine ⟨trivial, ?_⟩
    gi_at_call 20
    refine (callsIn_wide.2 QB.out).mono ?_
    rintro e w2 ⟨tb, v, rfl, ⟨fp, t1, t2, t3⟩, hb2⟩
    have B2 := B1.trans (hb2.mono B1.size)
    have h2x : w2.heap[w.heap.size]? = some (.cells #[.int .i64 most] 3 (0, 0)) := (hb2.block _ (by have := hb1.size; omega)).trans H1X.out
    have H2X := Lib.hid h2x
    have T1 := Lib.hid t1
    have T3 := Lib.hid t3
    have T2 := Lib.hid t2
    have hs2 := hb2.size
    clear t1 t2 t3 h2x H1X hb2 QB QF
    gi_wp2_with (refine ⟨trivial, ?_⟩; gi_at_call 26; refine (callsIn_wide.2 (Under_calls _ _ _)).mono ?_; rintro e w' ⟨rfl, rfl⟩)
    obtain ⟨W0, hW0⟩ : ∃ W0, W0 = (((w2.alloc (.cells #[.int .i64 0] 3)).alloc (.cells #[.pointer (some ⟨tb, 0, none⟩)] 24)).alloc (.cells #[.string s] 9)) := ⟨_, rfl⟩
    have hsz0 : W0.heap.size = w2.heap.size + 1 + 1 + 1 := by rw [hW0]; simp
    have hB0 : Below w2.heap.size w2 W0 := by rw [hW0]; exact (((Below.refl _ w2).alloc (Nat.le_refl _) _).alloc (by simp) _).alloc (by simp; omega) _
    have b1 : W0.heap[w2.heap.size]? = some (.cells #[.int .i64 0] 3 (0, 0)) := by
      rw [hW0]
      exact (Below.heap_alloc _ _ _ (by simp; omega)).trans ((Below.heap_alloc _ _ _ (by simp)).trans (heap_alloc_new w2 _))
    have b2 : W0.heap[w2.heap.size + 1]? = some (.cells #[.pointer (some ⟨tb, 0, none⟩)] 24 (0, 0)) := by
      rw [hW0]
      refine (Below.heap_alloc _ _ _ (by simp)).trans ?_
      have := heap_alloc_new (w2.alloc (.cells #[.int .i64 0] 3)) (.cells #[.pointer (some ⟨tb, 0, none⟩)] 24)
      rwa [World.size_alloc] at this
    have b3 : W0.heap[w2.heap.size + 1 + 1]? = some (.cells #[.string s] 9 (0, 0)) := by
      rw [hW0]
      have := heap_alloc_new ((w2.alloc (.cells #[.int .i64 0] 3)).alloc (.cells #[.pointer (some ⟨tb, 0, none⟩)] 24)) (.cells #[.string s] 9)
      rwa [World.size_alloc, World.size_alloc] at this
    have hbw : Below w.heap.size w W0 := B2.trans (hB0.mono B2.size)
    have hltw := T1.out.lt
    have hT : Tr W0 tb (opsDo ops) fp := T1.out.later hB0
    have hP : PR W0 w1.heap.size v (opsDo ops) := T3.out.later hB0
    have h0x : W0.heap[w.heap.size]? = some (.cells #[.int .i64 most] 3 (0, 0)) := (hB0.block _ (by have := lt_of_heap H2X.out; omega)).trans H2X.out
    have hwx2 := lt_of_heap H2X.out
    have hvl : ∀ g, v.ownBlock = some g → g < w2.heap.size := fun g hg => (Row.lt T3.out g hg).2
    rw [← hW0]
    clear hW0
    have hw2 := B2.size
    have HT := Lib.hid hT
    have HP := Lib.hid hP
    have HBW := Lib.hid hbw
    have H0X := Lib.hid h0x
    have HB1 := Lib.hid b1
    clear hT hP hbw hB0 h0x T1 T3 H2X b1 B2 B1 hb1
    refine wpIn_rangeFunc_ownG rfl (by omega) (gf := 40) (lb := #[.pointer (some ⟨w2.heap.size + 1, 0, none⟩), .pointer (some ⟨w2.heap.size + 1 + 1, 0, none⟩)]) rfl trivial (enters_of Try.func40 (by kernel_rfl) rfl)
      (under_stops (3 - 1) (by omega) tb (w2.heap.size + 1) (w2.heap.size + 1 + 1) (opsDo ops) fp p s HS.out 9000 (by omega) HKK.out (by omega) W0 HT.out b2 b3) KpU.t' (KpU.b (fun b hb => by rcases hb with h | h | h; (have := hltw b h; omega); omega; omega)) (Below.refl _ _) (fun _ => rfl)
      (EaI W0 w2.heap.size most)
      (EaL W0 w2.heap.size most)
      (EaI.own (Nat.le_refl _))
      (EaL.own (Nat.le_refl _))
      ⟨Fr.refl _ _, HB1.out, fun h => by simp; omega⟩
      (fun x : Kl => { tmps := #[.slice A ops.length c, .string s, .int .i64 most, undef, undef, .pointer (some ⟨w.heap.size, 0, none⟩), .bool false, .pointer (some ⟨tb, 0, none⟩), v, .pointer (some ⟨w2.heap.size, 0, none⟩), undef, .slice A ops.length c, .bool true, .bool false, .bool false, .string s, .int .i64 s.size, .bool false, .bool false, undef, .tuple #[.pointer (some ⟨tb, 0, none⟩), v], .slice A ops.length c, .tuple #[.pointer (some ⟨tb, 0, none⟩), v], .pointer (some ⟨tb, 0, none⟩), v, .pointer (some ⟨tb, 0, none⟩), .bool false, .pointer (some ⟨tb, 0, none⟩), .string s, .func (.func 40) #[] #[.pointer (some ⟨w2.heap.size + 1, 0, none⟩), .pointer (some ⟨w2.heap.size + 1 + 1, 0, none⟩)], str x.1.1, encV x.1.2, undef, undef, undef, undef, undef, undef, undef, undef, undef, undef, undef, undef, undef, undef, undef, undef, undef, undef, undef, undef], defers := [] }) ?assign ?body ?done ?stop
    case assign =>
      intro yl x W K hK
      unfold encK encE
      gi_wp2
      exact hK
    case body =>
      rintro yl pr x W hI hlt
      have h0 := (hI.fr.block w.heap.size (by omega) (by omega)).trans H0X.out
      have d1 : W.cell? ⟨w.heap.size, 0, none⟩ = some (.int .i64 most) := by rw [cell_of_row W _ _ _ _ (0, 0) h0]; rfl
      have d3 : W.cell? ⟨w2.heap.size, 0, none⟩ = some (n64 pr.length) := by rw [cell_of_row W _ _ _ _ (0, 0) hI.box]; rfl
      have d6 : W.frozen? ⟨w2.heap.size, 0, none⟩ = false := frozen_of_row W _ 0 _ _ hI.box
      have hll : (lunder (opsDo ops) p).length ≤ 80 := Nat.le_trans (List.length_filter_le _ _) hlen
      have hpl2 : pr.length ≤ 80 := by omega
      have HI := Lib.hid hI
      obtain ⟨n, hn⟩ : ∃ n, n = pr.length := ⟨_, rfl⟩
      rw [← hn] at d3 hpl2
      have HN := Lib.hid hn
      clear hI h0 hlt hll hn
      have hfr : Fr (fun b => b = w2.heap.size) W0 (W.setCell ⟨w2.heap.size, 0, none⟩ (.int .i64 ((n : Int) + 1))) := HI.out.fr.trans (Fr.setCell W ⟨w2.heap.size, 0, none⟩ _) fun _ _ e => e
      have hbx : (W.setCell ⟨w2.heap.size, 0, none⟩ (.int .i64 ((n : Int) + 1))).heap[w2.heap.size]? = some (.cells #[n64 (pr ++ [x]).length] 3 (0, 0)) := by
        have := heap_setCell_same W w2.heap.size 0 _ _ (.int .i64 ((n : Int) + 1)) HI.out.box
        rw [show n64 (pr ++ [x]).length = .int .i64 ((n : Int) + 1) by rw [HN.out]; simp]
        exact this
      have hln : ((pr ++ [x]).length : Int) = (n : Int) + 1 := by rw [HN.out]; simp
      have HFR := Lib.hid hfr
      have HBB := Lib.hid hbx
      have HLN := Lib.hid hln
      clear hfr hbx hln
      by_cases hm : ((n : Int) + 1) = most
      · have hme : (((n : Int) + 1) == most) = true := by simpa using hm
        have hone : 1 ≤ most := by omega
        have HM := Lib.hid hm
        clear hm
        gi_wp2
        exact ⟨(KeepsOthers.setCell W ⟨w2.heap.size, 0, none⟩ _).from _, ⟨rfl, HFR.out, HBB.out, by rw [HLN.out, HM.out], hone⟩⟩
      · have hme : (((n : Int) + 1) == most) = false := by simpa using hm
        have HM := Lib.hid hm
        clear hm
        gi_wp2
        refine ⟨(KeepsOthers.setCell W ⟨w2.heap.size, 0, none⟩ _).from _, KpU.of_fr (Fr.setCell W ⟨w2.heap.size, 0, none⟩ _) (fun b hb => ?_) (fun b hb => ?_), HFR.out, HBB.out, fun h => ?_⟩
        · have hws := HI.out.fr.size
          rcases hb with h | h | h
          · have := hltw b h; exact ⟨by omega, fun e => by have e : b = w2.heap.size := e; omega⟩
          · exact ⟨by omega, fun e => by have e : b = w2.heap.size := e; omega⟩
          · exact ⟨by omega, fun e => by have e : b = w2.heap.size := e; omega⟩
        · rw [show b = w2.heap.size from hb]
          exact ⟨_, _, HI.out.box, by decide, by decide⟩
        · have h1 := HI.out.few h
          have h2 := HM.out
          rw [← HN.out] at h1
          rw [HLN.out]; omega
    case done =>
      rintro D ys W hD hys hI hK2
      have hlu : (lunder (opsDo ops) p).length ≤ 80 := Nat.le_trans (List.length_filter_le _ _) hlen
      obtain ⟨n, hn⟩ : ∃ n, n = ys.length := ⟨_, rfl⟩
      have hnl : n = (lunder (opsDo ops) p).length := by rw [hn, ← hys]; simp [vals]
      have hfew := hI.few
      rw [← hn] at hfew
      have hmin : 1 ≤ most → min ((lunder (opsDo ops) p).length : Int) most = (n : Int) := fun h => by have := hfew h; omega
      have hno : most < 1 → n = (lunder (opsDo ops) p).length := fun _ => hnl
      have hbox : W.heap[w2.heap.size]? = some (.cells #[n64 n] 3 (0, 0)) := by rw [hn]; exact hI.box
      have HFRW := Lib.hid hI.fr
      have HBOX := Lib.hid hbox
      have hn80 : n ≤ 80 := by omega
      clear hys hn hnl hfew hI hbox HT b2 b3
      have hfr := HFRW.out
      have hWz := hfr.size
      have hP : PR W w1.heap.size v (opsDo ops) := Row.at_ HP.out fun g hg => hfr.block g (by have := hvl g hg; omega) (by have := hvl g hg; omega)
      have hWb : Below w.heap.size w W := ⟨hfr.os.trans HBW.out.os, hfr.tape.trans HBW.out.tape, hfr.output.trans HBW.out.output, Nat.le_trans HBW.out.size hfr.size, fun k hk => (hfr.block k (by have := HBW.out.size; omega) (fun e => by have e : k = w2.heap.size := e; omega)).trans (HBW.out.block k hk)⟩
      have h0 := (hfr.block w.heap.size (by omega) (by omega)).trans H0X.out
      have H0 := Lib.hid h0
      have HWB := Lib.hid hWb
      have qu := rUnder_calls W _ v (opsDo ops) hP (by omega) (fun q hq => by have := HKK.out q hq; omega) s p HS.out (by omega)
      have QU := Lib.hid qu
      have HK2 := Lib.hid hK2
      clear hfr hP hWb h0 qu hK2
      gi_wp2_with fail
      refine ⟨trivial, ?_⟩
      gi_at_call 27
      refine (callsIn_wide.2 QU.out).mono ?_
      rintro e w3 ⟨v3, rfl, hr3, hb3⟩
      obtain ⟨A3, c3, rfl, _⟩ := id hr3.rd
      have B3 := HWB.out.trans (hb3.mono HWB.out.size)
      have h03 := (hb3.block w.heap.size (by omega)).trans H0.out
      have hx3 := (hb3.block w2.heap.size (by omega)).trans HBOX.out
      have hk3 : w3.heap[D]? = some (Obj.deferred (some [])) := (hb3.block D (lt_of_heap HK2.out)).trans HK2.out
      have d1 : w3.cell? ⟨w.heap.size, 0, none⟩ = some (.int .i64 most) := by rw [cell_of_row w3 _ _ _ _ (0, 0) h03]; rfl
      have qa := alive_calls w3
      have QA := Lib.hid qa
      have HX3 := Lib.hid hx3
      have HK3 := Lib.hid hk3
      clear h03 hx3 hk3 hr3 hb3 QU HBOX H0 qa HK2
      by_cases hmm : 1 ≤ most
      · have hmn := hmin hmm
        clear hmin hno
        have hml : (n : Int) ≤ 9223372036854775807 := by omega
        gi_wp2_with fail
        refine ⟨trivial, ?_⟩
        gi_at_call 10
        refine (callsIn_wide.2 QA.out).mono ?_
        rintro e w4 ⟨rfl, hb4⟩
        have hx4 := (hb4.block w2.heap.size (lt_of_heap HX3.out)).trans HX3.out
        have d2 : w4.cell? ⟨w2.heap.size, 0, none⟩ = some (.int .i64 n) := by rw [cell_of_row w4 _ _ _ _ (0, 0) hx4]; rfl
        have hk4 : w4.heap[D]? = some (Obj.deferred (some [])) := (hb4.block D (lt_of_heap HK3.out)).trans HK3.out
        have B4 := B3.trans (hb4.mono B3.size)
        have HK4 := Lib.hid hk4
        clear hx4 hk4 HX3 HK3 d1 hb4
        gi_wp2
        refine ⟨by simp, .inl ⟨_, _, rfl, run_takeDeferred HK4.out, ?_⟩⟩
        refine ⟨_, results_tmp rfl _ _ _, rfl, ?_⟩
        exact B4.trans (belowK_b (w := w) (Nat.le_refl _) _ D _ _ (by omega) HK4.out rfl rfl)
      · have hnn := hno (by omega)
        clear hmin hno
        have hml : (n : Int) ≤ 9223372036854775807 := by omega
        gi_wp2_with fail
        refine ⟨trivial, ?_⟩
        gi_at_call 10
        refine (callsIn_wide.2 QA.out).mono ?_
        rintro e w4 ⟨rfl, hb4⟩
        have hx4 := (hb4.block w2.heap.size (lt_of_heap HX3.out)).trans HX3.out
        rw [hnn] at hx4
        have d2 : w4.cell? ⟨w2.heap.size, 0, none⟩ = some (.int .i64 ((lunder (opsDo ops) p).length : Int)) := by rw [cell_of_row w4 _ _ _ _ (0, 0) hx4]; rfl
        have hk4 : w4.heap[D]? = some (Obj.deferred (some [])) := (hb4.block D (lt_of_heap HK3.out)).trans HK3.out
        have B4 := B3.trans (hb4.mono B3.size)
        have HK4 := Lib.hid hk4
        clear hx4 hk4 HX3 HK3 d1 hb4 hnn
        gi_wp2
        refine ⟨by simp, .inl ⟨_, _, rfl, run_takeDeferred HK4.out, ?_⟩⟩
        refine ⟨_, results_tmp rfl _ _ _, rfl, ?_⟩
        exact B4.trans (belowK_b (w := w) (Nat.le_refl _) _ D _ _ (by omega) HK4.out rfl rfl)
    case stop =>
      rintro D c pr W hD hpre hL hK2
      obtain ⟨rfl, hfr, hbx, hmo, hone⟩ := hL
      have hlu : (lunder (opsDo ops) p).length ≤ 80 := Nat.le_trans (List.length_filter_le _ _) hlen
      obtain ⟨n, hn⟩ : ∃ n, n = pr.length := ⟨_, rfl⟩
      have hnl : n ≤ (lunder (opsDo ops) p).length := by
        have := hpre.length_le
        rw [hn]; simpa [vals] using this
      rw [← hn] at hmo hbx
      have hmin : 1 ≤ most → min ((lunder (opsDo ops) p).length : Int) most = (n : Int) := fun h => by omega
      have hno : most < 1 → n = (lunder (opsDo ops) p).length := fun h => absurd hone (by omega)
      have HFRW := Lib.hid hfr
      have HBOX := Lib.hid hbx
      have hn80 : n ≤ 80 := by omega
      clear hpre hn hnl hfr hbx HT b2 b3 hmo
      have hfr := HFRW.out
      have hWz := hfr.size
      have hP : PR W w1.heap.size v (opsDo ops) := Row.at_ HP.out fun g hg => hfr.block g (by have := hvl g hg; omega) (by have := hvl g hg; omega)
      have hWb : Below w.heap.size w W := ⟨hfr.os.trans HBW.out.os, hfr.tape.trans HBW.out.tape, hfr.output.trans HBW.out.output, Nat.le_trans HBW.out.size hfr.size, fun k hk => (hfr.block k (by have := HBW.out.size; omega) (fun e => by have e : k = w2.heap.size := e; omega)).trans (HBW.out.block k hk)⟩
      have h0 := (hfr.block w.heap.size (by omega) (by omega)).trans H0X.out
      have H0 := Lib.hid h0
      have HWB := Lib.hid hWb
      have qu := rUnder_calls W _ v (opsDo ops) hP (by omega) (fun q hq => by have := HKK.out q hq; omega) s p HS.out (by omega)
      have QU := Lib.hid qu
      have HK2 := Lib.hid hK2
      clear hfr hP hWb h0 qu hK2
      gi_wp2_with fail
      refine ⟨trivial, ?_⟩
      gi_at_call 27
      refine (callsIn_wide.2 QU.out).mono ?_
      rintro e w3 ⟨v3, rfl, hr3, hb3⟩
      obtain ⟨A3, c3, rfl, _⟩ := id hr3.rd
      have B3 := HWB.out.trans (hb3.mono HWB.out.size)
      have h03 := (hb3.block w.heap.size (by omega)).trans H0.out
      have hx3 := (hb3.block w2.heap.size (by omega)).trans HBOX.out
      have hk3 : w3.heap[D]? = some (Obj.deferred (some [])) := (hb3.block D (lt_of_heap HK2.out)).trans HK2.out
      have d1 : w3.cell? ⟨w.heap.size, 0, none⟩ = some (.int .i64 most) := by rw [cell_of_row w3 _ _ _ _ (0, 0) h03]; rfl
      have qa := alive_calls w3
      have QA := Lib.hid qa
      have HX3 := Lib.hid hx3
      have HK3 := Lib.hid hk3
      clear h03 hx3 hk3 hr3 hb3 QU HBOX H0 qa HK2
      by_cases hmm : 1 ≤ most
      · have hmn := hmin hmm
        clear hmin hno
        have hml : (n : Int) ≤ 9223372036854775807 := by omega
        gi_wp2_with fail
        refine ⟨trivial, ?_⟩
        gi_at_call 10
        refine (callsIn_wide.2 QA.out).mono ?_
        rintro e w4 ⟨rfl, hb4⟩
        have hx4 := (hb4.block w2.heap.size (lt_of_heap HX3.out)).trans HX3.out
        have d2 : w4.cell? ⟨w2.heap.size, 0, none⟩ = some (.int .i64 n) := by rw [cell_of_row w4 _ _ _ _ (0, 0) hx4]; rfl
        have hk4 : w4.heap[D]? = some (Obj.deferred (some [])) := (hb4.block D (lt_of_heap HK3.out)).trans HK3.out
        have B4 := B3.trans (hb4.mono B3.size)
        have HK4 := Lib.hid hk4
        clear hx4 hk4 HX3 HK3 d1 hb4
        gi_wp2
        refine ⟨by simp, .inl ⟨_, _, rfl, run_takeDeferred HK4.out, ?_⟩⟩
        refine ⟨_, results_tmp rfl _ _ _, rfl, ?_⟩
        exact B4.trans (belowK_b (w := w) (Nat.le_refl _) _ D _ _ (by omega) HK4.out rfl rfl)
      · exact absurd hone (by omega)
end Go.Proofs.Ytkpfendodmfeoaa
