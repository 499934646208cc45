import Derived.Test.YtfegchonclhjjaaWl5
import Derived.BigFrameIn
namespace Go.Proofs.Ytfegchonclhjjaa
open Go.RowKit Go.Shelf
attribute [local go_sem] Oper.semAt_some
theorem run_loadVar_bool (w : World) (a : Addr) (b : Bool) (hc : w.cell? a = some (.bool b)) : (loadVar 4 a).run Try.prog w = .ok (.bool b) w := by
  have h : (isAgg 4).run Try.prog w = .ok false w := by
    unfold isAgg
    rw [Sem.run_bind, run_underlying Try.underlying4 w]
    rfl
  unfold loadVar
  rw [Sem.run_bind, h]
  simp [go_sem, hc]
theorem ownFrom_fr {β : Type} {S : Nat → Prop} {B : Nat} {w₀ : World} (hB : w₀.heap.size ≤ B) : OwnFrom B (fun (_ : β) W => Fr S w₀ W) :=
  fun _ _ _ _ hs hg hr => hs.trans (Fr.of_grown hg) fun i hi e => by have := (hr i e).1; omega
theorem ats_at (j : Nat) (cs : List Bs) (k : Nat) (c : Bs) (h : cs[k]? = some c) : (ats j cs)[k]? = some (j + (cs.take k).flatten.length, c) := by
  induction cs generalizing j k with
  | nil => simp at h
  | cons d ds ih =>
    cases k with
    | zero => simp at h; simp [ats, h]
    | succ k =>
      rw [List.getElem?_cons_succ] at h
      rw [ats, List.getElem?_cons_succ, ih _ _ h, List.take_succ_cons, List.flatten_cons, List.length_append, Nat.add_assoc]
theorem ats_at' (cs : List Bs) (k : Nat) (c : Bs) (h : cs[k]? = some c) : (ats 0 cs)[k]? = some ((cs.take k).flatten.length, c) := by
  have := ats_at 0 cs k c h
  rwa [Nat.zero_add] at this
theorem val_len {L : Nat} (pre : List (Cl L)) : (val pre).length = pre.length := by simp [val]
theorem pre_snoc {L : Nat} {pre : List (Cl L)} {x : Cl L} {m : List (Nat × Bs)} (h : val pre <+: m) (hx : m[(val pre).length]? = some x.1) : val (pre ++ [x]) <+: m := by
  obtain ⟨t, rfl⟩ := h
  rw [List.getElem?_append_right (Nat.le_refl _), Nat.sub_self] at hx
  cases t with
  | nil => simp at hx
  | cons y t =>
    simp at hx
    exact ⟨t, by simp [val, hx]⟩
theorem pre_at {L : Nat} {pre : List (Cl L)} {x : Cl L} {m : List (Nat × Bs)} (h : val (pre ++ [x]) <+: m) : m[(val pre).length]? = some x.1 := by
  obtain ⟨t, rfl⟩ := h
  simp [val]
/-- What stands in a round of WidthEach's loop: the count (its box: Bn), and what has been told. -/
def Told6 {L : Nat} (cs : List Bs) (most : Int) (Bn : Nat) (w0 : World) (pre : List (Cl L)) (W : World) : Prop :=
  Boxed W Bn 3 (n64 pre.length) ∧ Fr (fun k => k = Bn) w0 W ∧ val pre <+: ats 0 cs ∧ (1 ≤ most → (pre.length : Int) < most)
/-- How the loop is left early. -/
def Left6 {L : Nat} (cs : List Bs) (most : Int) (Bn : Nat) (w0 : World) (c : Code) (pre : List (Cl L)) (W : World) : Prop :=
  (c = .ret ∧ ¬ val pre <+: ats 0 cs) ∨ (c = .exit 0 ∧ Boxed W Bn 3 (n64 pre.length) ∧ Fr (fun k => k = Bn) w0 W ∧ (pre.length : Int) = most ∧ 1 ≤ most)
theorem told6_own {L : Nat} {cs : List Bs} {most : Int} {Bn : Nat} {w0 : World} {B : Nat} (hB : w0.heap.size ≤ B) : OwnFrom B (fun (pre : List (Cl L)) W => Told6 cs most Bn w0 pre W) :=
  fun s W W' row ⟨h1, h2, h3, h4⟩ hg hr => ⟨boxed_own Bn 3 (fun pre : List (Cl L) => n64 pre.length) s W W' row h1 hg (fun r e => (hr r e).2), ownFrom_fr hB s W W' row h2 hg hr, h3, h4⟩
theorem left6_own {L : Nat} {cs : List Bs} {most : Int} {Bn : Nat} {w0 : World} {B : Nat} (hB : w0.heap.size ≤ B) (c : Code) : OwnFrom B (fun (pre : List (Cl L)) W => Left6 cs most Bn w0 c pre W) := by
  rintro s W W' row (h | ⟨h0, h1, h2, h3, h4⟩) hg hr
  · exact .inl h
  · exact .inr ⟨h0, boxed_own Bn 3 (fun pre : List (Cl L) => n64 pre.length) s W W' row h1 hg (fun r e => (hr r e).2), ownFrom_fr hB s W W' row h2 hg hr, h3, h4⟩
set_option maxRecDepth 100000 in
set_option maxHeartbeats 2000000 in
theorem WidthEach_walk (s : ByteArray) (most : Int) (w : World) :
    Calls Try.prog 6 #[.string s, .int .i64 most] w fun e w' => e = .returned (.bool true) ∧ Below w.heap.size w w' := by
  obtain ⟨l, hs⟩ : ∃ l : Bs, s = ⟨l.toArray⟩ := ⟨s.data.toList, by cases s; rfl⟩
  have hsz : s.size = l.length := by rw [hs, str_of]
  have HS := Lib.hid hs
  clear hs
  refine (callsIn_wide (n := 9)).1 ?_
  refine callsIn_of_wp_marks Try.func6 rfl trivial ?_ rfl
  simp only [Try.ntmps6, List.size_toArray, List.length_nil, List.length_cons, Nat.reduceAdd, Nat.reduceSub, Array.replicate_succ, Array.replicate_zero, List.push_toArray, List.append_toArray, List.nil_append, List.cons_append]
  by_cases hbig : 1000 < l.length
  · gi_wp2_with (refine ⟨trivial, ?_⟩; gi_at_call 10; refine (callsIn_wide.2 (alive_calls _)).mono ?_; rintro e w1 ⟨rfl, hb1⟩; have bRx := (Boxed.new (w.alloc (.cells #[.int .i64 most] 3)) 4 (.bool false)).kept (grown_of_below hb1) (by simp); rw [World.size_alloc] at bRx; have hfz := bRx.frozen; have hcl := bRx.cell)
    refine ⟨_, results_cell1 rfl (a := ⟨w.heap.size + 1, 0, none⟩) rfl (run_loadVar_bool _ _ true (bRx.set _).cell), rfl, ?_⟩
    exact ((((Below.refl _ w).alloc (Nat.le_refl _) _).alloc (by simp) _).trans (hb1.mono (by simp; omega))).setCell (p := ⟨w.heap.size + 1, 0, none⟩) (by simp) _
  have hl : l.length ≤ 4294967296 := by omega
  have hcl := cuts_len l
  have HF := Lib.hid (cuts_flat l)
  obtain ⟨cs, hcs⟩ : ∃ cs, cs = cuts l := ⟨_, rfl⟩
  have HCS := Lib.hid hcs
  rw [← hcs] at hcl
  clear hcs
  have HB := Lib.hid (bnds_length 0 cs)
  have hnil : ∀ (Bn : Nat) (W : World), (binOp .eql 35 (.func (.func 36) #[] #[.pointer (some ⟨Bn, 0, none⟩)]) .nilFunc).run Try.prog W = .ok (.bool false) W := fun Bn W => by kernel_rfl
  gi_wp2_with (first
    | (refine ⟨trivial, ?_⟩; gi_at_call 19; refine (callsIn_wide.2 (rCut_calls l hl s HS.out _)).mono ?_; rintro e w1 ⟨v1, rfl, hrow1, hb1⟩; rw [← HCS.out] at hrow1; obtain ⟨A1, c1, rfl, _, _, hrd1, hA1⟩ := hrow1.rd; clear hrow1; have HR1 := Lib.hid hrd1; clear hrd1)
    | (refine ⟨trivial, ?_⟩; gi_at_call 17; refine (callsIn_wide.2 (rBounds_calls l hl s HS.out w1)).mono ?_; rintro e w2 ⟨v2, rfl, hrow2, hb2⟩; rw [← HCS.out, HB.out] at hrow2; obtain ⟨A2, c2, rfl, _, _, hrd2, hA2⟩ := hrow2.rd; clear hrow2; have HR2 := Lib.hid hrd2; clear hrd2)
    | (refine ⟨trivial, ?_⟩; gi_at_call 26; refine (callsIn_wide.2 (Each_calls _ _)).mono ?_; rintro e w' ⟨rfl, rfl⟩))
  have bM0 : Boxed ((w.alloc (.cells #[.int .i64 most] 3)).alloc (.cells #[.bool false] 4)) w.heap.size 3 (.int .i64 most) := (Boxed.new w _ _).alloc _
  have bR0 : Boxed ((w.alloc (.cells #[.int .i64 most] 3)).alloc (.cells #[.bool false] 4)) (w.heap.size + 1) 4 (.bool false) := by
    have := Boxed.new (w.alloc (.cells #[.int .i64 most] 3)) 4 (.bool false)
    rwa [World.size_alloc] at this
  have B0 : Below w.heap.size w ((w.alloc (.cells #[.int .i64 most] 3)).alloc (.cells #[.bool false] 4)) := ((Below.refl _ w).alloc (Nat.le_refl _) _).alloc (by simp) _
  have B12 := hb1.trans (hb2.mono hb1.size)
  have bM2 := bM0.kept (grown_of_below B12) (by simp)
  have bR2 := bR0.kept (grown_of_below B12) (by simp)
  have B2 : Below w.heap.size w w2 := B0.trans (B12.mono B0.size)
  have hs1 : w.heap.size + 1 + 1 ≤ w1.heap.size := by have := hb1.size; simpa using this
  have hs2 := hb2.size
  have HR1w := Lib.hid (HR1.out.later hb2)
  have hA1' : ∀ a, A1 = some a → a.block < w1.heap.size := fun a h => (hA1 a h).2
  have hA2' : ∀ a, A2 = some a → a.block < w2.heap.size := fun a h => (hA2 a h).2
  clear bM0 bR0 B0 hb1 hb2 B12 hA1 hA2 HR1
  obtain ⟨w0, hw0⟩ : ∃ W0, ((((w2.alloc (.cells #[.slice A1 cs.length c1] 27)).alloc (.cells #[.slice A2 (cs.length + 1) c2] 29)).alloc (.cells #[.int .i64 0] 3)).alloc (.cells #[.string s] 9)) = W0 := ⟨_, rfl⟩
  have hsz0 : w0.heap.size = w2.heap.size + 1 + 1 + 1 + 1 := by rw [← hw0]; simp
  have b5 : Boxed w0 w2.heap.size 27 (.slice A1 cs.length c1) := by rw [← hw0]; exact (((Boxed.new w2 _ _).alloc _).alloc _).alloc _
  have b6 : Boxed w0 (w2.heap.size + 1) 29 (.slice A2 (cs.length + 1) c2) := by
    rw [← hw0]
    have := ((Boxed.new (w2.alloc (.cells #[.slice A1 cs.length c1] 27)) 29 (.slice A2 (cs.length + 1) c2)).alloc (.cells #[.int .i64 0] 3)).alloc (.cells #[.string s] 9)
    rwa [World.size_alloc] at this
  have b7 : Boxed w0 (w2.heap.size + 1 + 1) 3 (.int .i64 0) := by
    rw [← hw0]
    have := (Boxed.new ((w2.alloc (.cells #[.slice A1 cs.length c1] 27)).alloc (.cells #[.slice A2 (cs.length + 1) c2] 29)) 3 (.int .i64 0)).alloc (.cells #[.string s] 9)
    rwa [World.size_alloc, World.size_alloc] at this
  have b8 : Boxed w0 (w2.heap.size + 1 + 1 + 1) 9 (.string s) := by
    rw [← hw0]
    have := Boxed.new (((w2.alloc (.cells #[.slice A1 cs.length c1] 27)).alloc (.cells #[.slice A2 (cs.length + 1) c2] 29)).alloc (.cells #[.int .i64 0] 3)) 9 (.string s)
    rwa [World.size_alloc, World.size_alloc, World.size_alloc] at this
  have B20 : Below w2.heap.size w2 w0 := by
    rw [← hw0]
    exact ((((Below.refl _ w2).alloc (Nat.le_refl _) _).alloc (by simp) _).alloc (by simp; omega) _).alloc (by simp; omega) _
  have B0 : Below w.heap.size w w0 := B2.trans (B20.mono B2.size)
  have bM := bM2.kept (grown_of_below B20) (by simp)
  have bR := bR2.kept (grown_of_below B20) (by simp)
  have HR1 := Lib.hid (HR1w.out.later B20)
  have HR2' := Lib.hid (HR2.out.later B20)
  rw [hw0] at *
  clear hw0 bM2 bR2 HR1w HR2
  have hatl := ats_len 0 cs
  have hI0 : Told6 (L := l.length) cs most (w2.heap.size + 1 + 1) w0 [] w0 := ⟨b7, Fr.refl _ _, List.nil_prefix, fun h => by simp; omega⟩
  refine wpIn_rangeFunc_ownG rfl (by omega) (gf := 36) (lb := #[.pointer (some ⟨w2.heap.size + 1 + 1 + 1, 0, none⟩)]) rfl trivial (enters_of Try.func36 (by kernel_rfl) rfl)
    (each_stops (9 - 1) (by omega) l hl (w2.heap.size + 1 + 1 + 1) w0 s HS.out b8) KpE.t (KpE.b (by omega)) (Below.refl _ _) (fun _ => rfl)
    (fun (pre : List (Cl l.length)) W => Told6 cs most (w2.heap.size + 1 + 1) w0 pre W)
    (fun c pre W => Left6 cs most (w2.heap.size + 1 + 1) w0 c pre W)
    (told6_own (by omega))
    (left6_own (by omega))
    hI0
    (fun x : Cl l.length => { tmps := #[.string s, .int .i64 most, undef, .pointer (some ⟨w.heap.size, 0, none⟩), .pointer (some ⟨w.heap.size + 1, 0, none⟩), .pointer (some ⟨w2.heap.size, 0, none⟩), .pointer (some ⟨w2.heap.size + 1, 0, none⟩), .pointer (some ⟨w2.heap.size + 1 + 1, 0, none⟩), .func (.func 36) #[] #[.pointer (some ⟨w2.heap.size + 1 + 1 + 1, 0, none⟩)], n64 x.1.1, str x.1.2, undef, .string s, .int .i64 l.length, .bool (decide ((1000 : Int) < (l.length : Int))), undef, .string s, .slice A1 cs.length c1, .string s, .slice A2 (cs.length + 1) c2, .string s, .func (.func 36) #[] #[.pointer (some ⟨w2.heap.size + 1 + 1 + 1, 0, none⟩)], .func (.func 36) #[] #[.pointer (some ⟨w2.heap.size + 1 + 1 + 1, 0, none⟩)], .bool false, .func (.func 36) #[] #[.pointer (some ⟨w2.heap.size + 1 + 1 + 1, 0, none⟩)], n64 x.1.1, str x.1.2] ++ Array.replicate (Try.f6.ntmps - 27) undef, defers := [] }) ?assign ?body ?done ?stop
  case assign =>
    intro yl x W K hK
    unfold encs
    simp only [Try.ntmps6, Nat.reduceSub, Array.replicate_succ, Array.replicate_zero, List.push_toArray, List.append_toArray, List.nil_append, List.cons_append] at hK
    gi_wp2
    simpa using hK
  case body =>
    rintro yl pre x W hI hlt
    obtain ⟨hv, hfr, hpre, hmost⟩ := hI
    rw [← HCS.out] at hlt
    obtain ⟨n, hn⟩ : ∃ n, n = pre.length := ⟨_, rfl⟩
    rw [← hn] at hv hlt hmost
    have hN := hn
    have HN := Lib.hid hN
    clear hN hn
    have hW0 : w0.heap.size ≤ W.heap.size := hfr.size
    have c5 : Boxed W w2.heap.size 27 (.slice A1 cs.length c1) := hfr.heap b5 (by omega)
    have c6 : Boxed W (w2.heap.size + 1) 29 (.slice A2 (cs.length + 1) c2) := hfr.heap b6 (by omega)
    have cM : Boxed W w.heap.size 3 (.int .i64 most) := hfr.heap bM (by omega)
    have cR : Boxed W (w.heap.size + 1) 4 (.bool false) := hfr.heap bR (by omega)
    have RR1 := HR1.out.fr hfr (fun a ha _ => by have := hA1' a ha; omega)
    have RR2 := HR2'.out.fr hfr (fun a ha _ => by have := hA2' a ha; omega)
    obtain ⟨cc, hcc⟩ : ∃ cc, cs[n]? = some cc := ⟨_, List.getElem?_eq_getElem hlt⟩
    obtain ⟨at0, hat0⟩ : ∃ a, a = (cs.take n).flatten.length := ⟨_, rfl⟩
    have hath : (ats 0 cs)[n]? = some (at0, cc) := by
      rw [hat0]; exact ats_at' cs n cc hcc
    obtain ⟨g1, o1, rfl, k1⟩ := RR1 n (str cc) (by rw [List.getElem?_map, hcc]; rfl)
    obtain ⟨g2, o2, rfl, k2⟩ := RR2 n (n64 at0) (by rw [List.getElem?_map, bnds_at 0 cs n (by omega), Nat.zero_add, hat0]; rfl)
    have hf7 := hv.frozen
    have hfR := cR.frozen
    have hcR := cR.cell
    have h7 := hv.cell
    have h5 := c5.cell
    have h6 := c6.cell
    have hM := cM.cell
    obtain ⟨xa, hxa⟩ : ∃ a, a = x.1.1 := ⟨_, rfl⟩
    obtain ⟨xc, hxc⟩ : ∃ a, a = x.1.2 := ⟨_, rfl⟩
    rw [← hxa, ← hxc]
    obtain ⟨p, hp⟩ : ∃ p : ByteArray, p = ⟨cc.toArray⟩ := ⟨_, rfl⟩
    obtain ⟨q, hq⟩ : ∃ q : ByteArray, q = ⟨xc.toArray⟩ := ⟨_, rfl⟩
    rw [lit_of hp] at k1
    rw [lit_of hq]
    have hpq := str_beq hp hq
    have HP := Lib.hid hp
    have HQ := Lib.hid hq
    have HXA := Lib.hid hxa
    have HXC := Lib.hid hxc
    have HAT := Lib.hid hath
    have HFR := Lib.hid hfr
    have HPRE := Lib.hid hpre
    have HM := Lib.hid hmost
    have j1 : (n : Int) < (cs.length : Int) := by omega
    have j2 : (n : Int) < (cs.length : Int) + 1 := by omega
    have j3 : (n : Int) ≤ 1000 := by omega
    clear hp hq hxa hxc hath hfr hpre hmost RR1 RR2 hat0 hcc HR1 HR2' c5 c6 cM hnil b5 b6 b7 b8 bM bR hatl hI0 HF
    simp only [Try.ntmps6, Nat.reduceSub, Array.replicate_succ, Array.replicate_zero, List.push_toArray, List.append_toArray, List.nil_append, List.cons_append]
    by_cases he : cc = xc
    · have he1 : (p.toList == q.toList) = true := by rw [hpq]; exact decide_eq_true he
      by_cases ha : at0 = xa
      · have ha1 : (((at0 : Nat) : Int) != (xa : Int)) = false := by simp [ha]
        have HE := Lib.hid he
        have HA := Lib.hid ha
        clear he ha hpq
        by_cases hm : ((n : Int) + 1) = most
        · have hm1 : (((n : Int) + 1) == most) = true := by simp [hm]
          have HMM := Lib.hid hm
          clear hm
          gi_wp2
          refine ⟨(KeepsOthers.setCell W _ _).from _, .inr ⟨rfl, ?_, HFR.out.trans (Fr.setCell W _ _) (fun _ _ e => e), ?_⟩⟩
          · have := hv.set (.int .i64 ((n : Int) + 1))
            simpa [n64, ← HN.out] using this
          · have := HMM.out
            rw [List.length_append, List.length_singleton, ← HN.out]; omega
        · have hm1 : (((n : Int) + 1) == most) = false := by simpa using hm
          gi_wp2
          have hk := KeepsOthers.setCell W ⟨w2.heap.size + 1 + 1, 0, none⟩ (.int .i64 ((n : Int) + 1))
          refine ⟨hk.from _, ⟨hk.walks, Below.heap_setCell _ _ _ _ (by dsimp only; omega)⟩, ?_, HFR.out.trans (Fr.setCell W _ _) (fun _ _ e => e), ?_, ?_⟩
          · have := hv.set (.int .i64 ((n : Int) + 1))
            simpa [n64, ← HN.out] using this
          · refine pre_snoc HPRE.out ?_
            rw [val_len, ← HN.out, HAT.out, HE.out, HA.out, HXA.out, HXC.out]
          · intro h1
            have := HM.out h1
            rw [List.length_append, List.length_singleton, ← HN.out]
            have e : ((n + 1 : Nat) : Int) = (n : Int) + 1 := by omega
            omega
      · have ha1 : (((at0 : Nat) : Int) != (xa : Int)) = true := by simp; omega
        have HE := Lib.hid he
        clear he hpq
        gi_wp2
        refine ⟨(KeepsOthers.setCell W _ _).from _, .inl ⟨rfl, fun h => ?_⟩⟩
        have h2 := pre_at h
        rw [val_len, ← HN.out, HAT.out] at h2
        injection h2 with h3
        exact ha (by rw [HXA.out, ← h3])
    · have he1 : (p.toList == q.toList) = false := by rw [hpq]; exact decide_eq_false he
      clear hpq
      gi_wp2
      refine ⟨(KeepsOthers.setCell W _ _).from _, .inl ⟨rfl, fun h => ?_⟩⟩
      have h2 := pre_at h
      rw [val_len, ← HN.out, HAT.out] at h2
      injection h2 with h3
      exact he (by rw [HXC.out, ← h3])
  case done =>
    rintro D ys W hD hys ⟨hv, hfr, hpre, hmost⟩ hK
    rw [← HCS.out] at hys
    have hyl : ys.length = cs.length := by
      have := congrArg List.length hys
      rwa [ats_len, val_len] at this
    rw [hyl] at hv hmost
    have hmin : 1 ≤ most → min (cs.length : Int) most = (cs.length : Int) := fun h => by have := hmost h; omega
    clear hys hpre hmost hyl
    have hW0 : w0.heap.size ≤ W.heap.size := hfr.size
    have c5 : Boxed W w2.heap.size 27 (.slice A1 cs.length c1) := hfr.heap b5 (by omega)
    have cM : Boxed W w.heap.size 3 (.int .i64 most) := hfr.heap bM (by omega)
    have cR : Boxed W (w.heap.size + 1) 4 (.bool false) := hfr.heap bR (by omega)
    have h5 := c5.cell
    have hM := cM.cell
    have BW : Below w.heap.size w W := B0.trans (hfr.below (by omega) (fun _ _ e => by have := B2.size; omega))
    clear b5 b6 b7 b8 bM bR hI0 hnil hatl HR1 HR2'
    by_cases hm1 : 1 ≤ most
    · gi_wp2_with (refine ⟨trivial, ?_⟩; gi_at_call 10; refine (callsIn_wide.2 (alive_calls W)).mono ?_; rintro e w6 ⟨rfl, hb6⟩; have hv6 := hv.kept (grown_of_below hb6) (by simp); have h76 := hv6.cell; have cR6 := cR.kept (grown_of_below hb6) (by simp); have hfR6 := cR6.frozen; have hcR6 := cR6.cell)
      have hK7 : (w6.setCell ⟨w.heap.size + 1, 0, none⟩ (.bool true)).heap[D]? = some (.deferred (some [])) := (Below.heap_setCell _ _ _ _ (by dsimp only; have := B2.size; omega)).trans ((hb6.block D (lt_of_heap hK)).trans hK)
      have bT := (cR6.set (.bool true)).kept (grownBy_putObj' (w6.setCell ⟨w.heap.size + 1, 0, none⟩ (.bool true)) D (.deferred none)) (by have := B2.size; simp; omega)
      refine ⟨by simp, .inl ⟨_, _, rfl, run_takeDeferred hK7, ?_⟩⟩
      refine ⟨_, results_cell1 rfl (a := ⟨w.heap.size + 1, 0, none⟩) rfl (run_loadVar_bool _ _ true bT.cell), rfl, ?_⟩
      exact ((BW.trans (hb6.mono BW.size)).setCell (p := ⟨w.heap.size + 1, 0, none⟩) (by simp) _).trans (belowK_b (w := w) (Nat.le_refl _) _ D _ _ (by have := B0.size; omega) hK7 rfl rfl)
    · gi_wp2_with (refine ⟨trivial, ?_⟩; gi_at_call 10; refine (callsIn_wide.2 (alive_calls W)).mono ?_; rintro e w6 ⟨rfl, hb6⟩; have hv6 := hv.kept (grown_of_below hb6) (by simp); have h76 := hv6.cell; have cR6 := cR.kept (grown_of_below hb6) (by simp); have hfR6 := cR6.frozen; have hcR6 := cR6.cell)
      have hK7 : (w6.setCell ⟨w.heap.size + 1, 0, none⟩ (.bool true)).heap[D]? = some (.deferred (some [])) := (Below.heap_setCell _ _ _ _ (by dsimp only; have := B2.size; omega)).trans ((hb6.block D (lt_of_heap hK)).trans hK)
      have bT := (cR6.set (.bool true)).kept (grownBy_putObj' (w6.setCell ⟨w.heap.size + 1, 0, none⟩ (.bool true)) D (.deferred none)) (by have := B2.size; simp; omega)
      refine ⟨by simp, .inl ⟨_, _, rfl, run_takeDeferred hK7, ?_⟩⟩
      refine ⟨_, results_cell1 rfl (a := ⟨w.heap.size + 1, 0, none⟩) rfl (run_loadVar_bool _ _ true bT.cell), rfl, ?_⟩
      exact ((BW.trans (hb6.mono BW.size)).setCell (p := ⟨w.heap.size + 1, 0, none⟩) (by simp) _).trans (belowK_b (w := w) (Nat.le_refl _) _ D _ _ (by have := B0.size; omega) hK7 rfl rfl)
  case stop =>
    rintro D c pre W hD hpre hL hK
    rcases hL with ⟨rfl, hno⟩ | ⟨rfl, hv, hfr, hm, hm1⟩
    · rw [HCS.out] at hno
      exact absurd hpre hno
    have hpl := hpre.length_le
    rw [← HCS.out, ats_len, val_len] at hpl
    obtain ⟨n, hn⟩ : ∃ n, n = pre.length := ⟨_, rfl⟩
    rw [← hn] at hv hm hpl
    have hmin : 1 ≤ most → min (cs.length : Int) most = (n : Int) := fun h => by omega
    clear hpre hn hpl
    have hq8 : (n = cs.length ∧ (cs.length : Int) ≤ most) ∨ (((n : Int) == most) = true ∧ most < (cs.length : Int)) := by
      by_cases h : n = cs.length
      · exact .inl ⟨h, by omega⟩
      · exact .inr ⟨by simp [hm], by omega⟩
    clear hm hmin
    have hW0 : w0.heap.size ≤ W.heap.size := hfr.size
    have c5 : Boxed W w2.heap.size 27 (.slice A1 cs.length c1) := hfr.heap b5 (by omega)
    have cM : Boxed W w.heap.size 3 (.int .i64 most) := hfr.heap bM (by omega)
    have cR : Boxed W (w.heap.size + 1) 4 (.bool false) := hfr.heap bR (by omega)
    have h5 := c5.cell
    have hM := cM.cell
    have BW : Below w.heap.size w W := B0.trans (hfr.below (by omega) (fun _ _ e => by have := B2.size; omega))
    clear b5 b6 b7 b8 bM bR hI0 hnil hatl HR1 HR2'
    rcases hq8 with ⟨hq8, hq9⟩ | ⟨hq8, hq9⟩
    · subst hq8
      gi_wp2_with (refine ⟨trivial, ?_⟩; gi_at_call 10; refine (callsIn_wide.2 (alive_calls W)).mono ?_; rintro e w6 ⟨rfl, hb6⟩; have hv6 := hv.kept (grown_of_below hb6) (by simp); have h76 := hv6.cell; have cR6 := cR.kept (grown_of_below hb6) (by simp); have hfR6 := cR6.frozen; have hcR6 := cR6.cell)
      have hK7 : (w6.setCell ⟨w.heap.size + 1, 0, none⟩ (.bool true)).heap[D]? = some (.deferred (some [])) := (Below.heap_setCell _ _ _ _ (by dsimp only; have := B2.size; omega)).trans ((hb6.block D (lt_of_heap hK)).trans hK)
      have bT := (cR6.set (.bool true)).kept (grownBy_putObj' (w6.setCell ⟨w.heap.size + 1, 0, none⟩ (.bool true)) D (.deferred none)) (by have := B2.size; simp; omega)
      refine ⟨by simp, .inl ⟨_, _, rfl, run_takeDeferred hK7, ?_⟩⟩
      refine ⟨_, results_cell1 rfl (a := ⟨w.heap.size + 1, 0, none⟩) rfl (run_loadVar_bool _ _ true bT.cell), rfl, ?_⟩
      exact ((BW.trans (hb6.mono BW.size)).setCell (p := ⟨w.heap.size + 1, 0, none⟩) (by simp) _).trans (belowK_b (w := w) (Nat.le_refl _) _ D _ _ (by have := B0.size; omega) hK7 rfl rfl)
    · gi_wp2_with (refine ⟨trivial, ?_⟩; gi_at_call 10; refine (callsIn_wide.2 (alive_calls W)).mono ?_; rintro e w6 ⟨rfl, hb6⟩; have hv6 := hv.kept (grown_of_below hb6) (by simp); have h76 := hv6.cell; have cR6 := cR.kept (grown_of_below hb6) (by simp); have hfR6 := cR6.frozen; have hcR6 := cR6.cell)
      have hK7 : (w6.setCell ⟨w.heap.size + 1, 0, none⟩ (.bool true)).heap[D]? = some (.deferred (some [])) := (Below.heap_setCell _ _ _ _ (by dsimp only; have := B2.size; omega)).trans ((hb6.block D (lt_of_heap hK)).trans hK)
      have bT := (cR6.set (.bool true)).kept (grownBy_putObj' (w6.setCell ⟨w.heap.size + 1, 0, none⟩ (.bool true)) D (.deferred none)) (by have := B2.size; simp; omega)
      refine ⟨by simp, .inl ⟨_, _, rfl, run_takeDeferred hK7, ?_⟩⟩
      refine ⟨_, results_cell1 rfl (a := ⟨w.heap.size + 1, 0, none⟩) rfl (run_loadVar_bool _ _ true bT.cell), rfl, ?_⟩
      exact ((BW.trans (hb6.mono BW.size)).setCell (p := ⟨w.heap.size + 1, 0, none⟩) (by simp) _).trans (belowK_b (w := w) (Nat.le_refl _) _ D _ _ (by have := B0.size; omega) hK7 rfl rfl)
end Go.Proofs.Ytfegchonclhjjaa
