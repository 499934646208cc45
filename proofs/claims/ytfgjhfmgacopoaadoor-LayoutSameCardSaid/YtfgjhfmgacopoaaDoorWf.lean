import Derived.Test.YtfgjhfmgacopoaaDoorWo
import Derived.Test.YtfgjhfmgacopoaaDoorCv
import Derived.Test.YtfgjhfmgacopoaaDoorKa
import Derived.Test.YtfgjhfmgacopoaaDoorWc
import Derived.Test.YtfgjhfmgacopoaaDoorWe
import Derived.Test.YtfgjhfmgacopoaaDoorSr3
namespace Go.Proofs.YtfgjhfmgacopoaaDoor
open Go.RowKit
/-- What is shown of a cluster that cannot be: bytes ef bf bd. -/
def wrongB : Bs := [0xef, 0xbf, 0xbd]
def wid (c : Bs) : Int := if c = [] then 0 else max (wof ((dec c).1 : Int)) 1
def bad (c : Bs) : Bool := wof ((dec c).1 : Int) == 0 || ctl ((dec c).1 : Int)
def shown (c : Bs) : Bs := if c = [] then [] else if bad c then wrongB else clean c
/-- width.first. -/
theorem first_calls (c : Bs) (hc : c.length ≤ 4294967296) (s : ByteArray) (hs : s = ⟨c.toArray⟩) (w : World) :
    Calls Tryd.prog 69 #[.string s] w fun e w' => e = .returned (.tuple #[i32 (nxt c).1, .bool (decide (c ≠ []))]) ∧ Below w.heap.size w w' := by
  subst hs
  obtain ⟨cap, W, hcv, h1, h2, h3, h4⟩ := conv_bytes (P := Tryd.prog) w _ _ _ c Tryd.underlying9 Tryd.underlying61 Tryd.underlying5 (by simp only [maxLen]; omega)
  have hb : decide (0 < (nxt c).2) = decide (c ≠ []) := by
    by_cases h : c = []
    · simp [nxt, h]
    · simp [nxt, h]; have := dec_pos c; omega
  have HB := Lib.hid hb
  clear hb
  generalize hs : (⟨c.toArray⟩ : ByteArray) = s at hcv ⊢
  clear hs
  go_enter Tryd.func69, Tryd.ntmps69
  go_wp2_with fail
  refine (Next_calls _ cap c W h3 h1 h2).mono ?_
  rintro e w1 ⟨rfl, hb⟩
  go_wp2
  go_ret2
  exact ⟨by rw [← HB.out]; simp, h4.trans (hb.mono h4.size)⟩
/-- width.Wide. -/
theorem Wide_calls (c : Bs) (hc : c.length ≤ 4294967296) (s : ByteArray) (hs : s = ⟨c.toArray⟩) (w : World) :
    Calls Tryd.prog 59 #[.string s] w fun e w' => e = .returned (.int .i64 (wid c)) ∧ Below w.heap.size w w' := by
  have HS := Lib.hid hs
  clear hs
  by_cases h0 : c = []
  · go_enter Tryd.func59, Tryd.ntmps59
    go_wp2_with fail
    refine (first_calls c hc s HS.out w).mono ?_
    rintro e w1 ⟨rfl, hb⟩
    rw [show decide (c ≠ []) = false by simp [h0]]
    go_wp2
    go_ret
    exact ⟨by simp [wid, h0], hb⟩
  · have hnx := nxt_ne h0
    obtain ⟨r, hr⟩ : ∃ r : Int, r = ((dec c).1 : Int) := ⟨_, rfl⟩
    have HR := Lib.hid hr
    have hwc := wof_cases r
    go_enter Tryd.func59, Tryd.ntmps59
    go_wp2_with fail
    refine (first_calls c hc s HS.out w).mono ?_
    rintro e w1 ⟨rfl, hb⟩
    rw [show decide (c ≠ []) = true by simp [h0], hnx, show i32 (dec c).1 = .int .i32 r from by rw [hr]]
    clear hnx hr
    go_wp2_with fail
    refine (Of_calls r w1).mono ?_
    rintro e w2 ⟨rfl, hb2⟩
    have hb3 := hb.trans (hb2.mono hb.size)
    have hwid : wid c = max (wof r) 1 := by unfold wid; rw [if_neg h0, HR.out]
    have HW := Lib.hid hwid
    clear hwid
    rcases hwc with e | e | e
    all_goals
      rw [e]
      go_wp2
      go_ret
      exact ⟨by rw [HW.out, e]; rfl, hb3⟩
/-- width.Show. -/
theorem Show_calls (c : Bs) (hc : c.length ≤ 4294967296) (s : ByteArray) (hs : s = ⟨c.toArray⟩) (w : World) :
    Calls Tryd.prog 60 #[.string s] w fun e w' => e = .returned (.string ⟨(shown c).toArray⟩) ∧ Below w.heap.size w w' := by
  have HS := Lib.hid hs
  clear hs
  by_cases h0 : c = []
  · go_enter Tryd.func60, Tryd.ntmps60
    go_wp2_with fail
    refine (first_calls c hc s HS.out w).mono ?_
    rintro e w1 ⟨rfl, hb⟩
    rw [show decide (c ≠ []) = false by simp [h0]]
    go_wp2
    go_ret
    exact ⟨by rw [h0]; rfl, hb⟩
  · have hnx := nxt_ne h0
    obtain ⟨r, hr⟩ : ∃ r : Int, r = ((dec c).1 : Int) := ⟨_, rfl⟩
    have hsh : shown c = if (wof r == 0 || ctl r) = true then wrongB else clean c := by unfold shown bad; rw [if_neg h0, hr]
    have HSH := Lib.hid hsh
    have HR := Lib.hid hr
    obtain ⟨cap, hcv⟩ : ∃ cap : World → Nat, ∀ w, ∃ W, (convert 9 61 (.string s)).run Tryd.prog w = .ok (.slice (some ⟨w.heap.size, 0, none⟩) c.length (cap w)) W ∧ RdB W (some ⟨w.heap.size, 0, none⟩) c ∧ Below w.heap.size w W := by
      refine ⟨fun w => Classical.choose (conv_bytes (P := Tryd.prog) w _ _ _ c Tryd.underlying9 Tryd.underlying61 Tryd.underlying5 (by simp only [maxLen]; omega)), fun w => ?_⟩
      obtain ⟨W, a, _, _, b, d⟩ := Classical.choose_spec (conv_bytes (P := Tryd.prog) w _ _ _ c Tryd.underlying9 Tryd.underlying61 Tryd.underlying5 (by simp only [maxLen]; omega))
      exact ⟨W, by rw [HS.out]; exact a, b, d⟩
    have HCV := Lib.hid hcv
    clear hsh hcv
    go_enter Tryd.func60, Tryd.ntmps60
    go_wp2_with fail
    refine (first_calls c hc s HS.out w).mono ?_
    rintro e w1 ⟨rfl, hb⟩
    rw [show decide (c ≠ []) = true by simp [h0], hnx, show i32 (dec c).1 = .int .i32 r from by rw [hr]]
    clear hnx hr
    go_wp2_with fail
    refine (Of_calls r w1).mono ?_
    rintro e w2 ⟨rfl, hb2⟩
    have hb3 := hb.trans (hb2.mono hb.size)
    by_cases hz : wof r = 0
    · rw [hz]
      go_wp2
      go_ret
      refine ⟨?_, hb3⟩
      rw [HSH.out, if_pos (by rw [hz]; rfl)]
      rfl
    · have hz' : (wof r == 0) = false := by simpa using hz
      have HZ := Lib.hid hz'
      obtain ⟨z, hzz⟩ : ∃ z, z = wof r := ⟨_, rfl⟩
      rw [← hzz] at hz' ⊢
      clear hz
      have HZZ := Lib.hid hzz
      clear hzz
      by_cases hcl : ctl r = true
      · go_wp2_with (go_at_call 64; refine (Control_calls r w2).mono ?_; rintro e w3 ⟨rfl, hb4⟩; rw [hcl])
        go_ret
        refine ⟨?_, hb3.trans (hb4.mono hb3.size)⟩
        rw [HSH.out, if_pos (by rw [hcl, Bool.or_true])]
        rfl
      · have hcl' := Bool.eq_false_iff.2 hcl
        clear hcl
        go_wp2_with (first
          | (go_at_call 64; refine (Control_calls r w2).mono ?_; rintro e w3 ⟨rfl, hb4⟩; rw [hcl']; obtain ⟨W4, hcv4, hrd4, hb5⟩ := HCV.out w3)
          | (go_at_call 65; refine (Clean_calls _ _ c W4 hrd4 hc).mono ?_; rintro e w5 ⟨rfl, hb6⟩))
        go_ret
        refine ⟨?_, ((hb3.trans (hb4.mono hb3.size)).trans (hb5.mono (Nat.le_trans hb3.size hb4.size))).trans (hb6.mono (Nat.le_trans (Nat.le_trans hb3.size hb4.size) hb5.size))⟩
        rw [HSH.out, if_neg (by rw [HZ.out, hcl']; simp)]
        rfl
end Go.Proofs.YtfgjhfmgacopoaaDoor
namespace Go.Proofs.YtfgjhfmgacopoaaDoor
open Go.RowKit Go.Shelf
attribute [local go_sem] Oper.semAt_some
theorem keepsOthers_of_below {W w1 : World} (h : Below W.heap.size W w1) : KeepsOthers W w1 := ⟨h.size, fun k _ hk _ => (h.block k (lt_of_heap hk)).trans hk⟩
def wsum (cs : List Bs) : Int := (cs.map wid).sum
theorem wid_le (c : Bs) : 0 ≤ wid c ∧ wid c ≤ 2 := by
  unfold wid
  split
  · omega
  · rcases wof_cases ((dec c).1 : Int) with e | e | e <;> rw [e] <;> omega
theorem wsum_le (cs : List Bs) : 0 ≤ wsum cs ∧ wsum cs ≤ 2 * (cs.length : Int) := by
  induction cs with
  | nil => simp [wsum]
  | cons c cs ih =>
    have := wid_le c
    unfold wsum at ih ⊢
    rw [List.map_cons, List.sum_cons, List.length_cons]
    omega
theorem wsum_snoc (cs : List Bs) (c : Bs) : wsum (cs ++ [c]) = wsum cs + wid c := by simp [wsum]
def cls {L : Nat} (pre : List (Cl L)) : List Bs := pre.map (·.1.2)
theorem cls_val {L : Nat} {ys : List (Cl L)} {k : Nat} {cs : List Bs} (h : val ys = ats k cs) : cls ys = cs := by
  have h2 := congrArg (List.map (fun x : Nat × Bs => x.2)) h
  rw [ats_snd] at h2
  rw [← h2]; simp [val, cls]
set_option maxRecDepth 100000 in
set_option maxHeartbeats 2000000 in
theorem Sum_calls (l : Bs) (hl : l.length ≤ 4294967296) (s : ByteArray) (hs : s = ⟨l.toArray⟩) (w : World) :
    Calls Tryd.prog 44 #[.string s] w fun e w' => e = .returned (.int .i64 (wsum (cuts l))) ∧ Below w.heap.size w w' := by
  have hcl := cuts_len l
  have HS := Lib.hid hs
  clear hs
  refine (callsIn_wide (n := 9)).1 ?_
  refine callsIn_of_wp_marks Tryd.func44 rfl trivial ?_ rfl
  simp only [Tryd.ntmps44, List.size_toArray, List.length_cons, List.length_nil, Nat.reduceAdd, Nat.reduceSub, Array.replicate_succ, Array.replicate_zero, List.push_toArray, List.append_toArray, List.nil_append, List.cons_append]
  gi_wp2_with (refine ⟨trivial, ?_⟩; gi_at_call 40; refine (callsIn_wide.2 (Each_calls _ _)).mono ?_; rintro e w' ⟨rfl, rfl⟩)
  have bO := Boxed.new w 3 (.int .i64 0)
  have bN := Boxed.new (w.alloc (.cells #[.int .i64 0] 3)) 9 (.string s)
  rw [World.size_alloc] at bN
  have hB0 : Below w.heap.size w ((w.alloc (.cells #[.int .i64 0] 3)).alloc (.cells #[.string s] 9)) := ((Below.refl _ w).alloc (Nat.le_refl _) _).alloc (by simp) _
  obtain ⟨w0, hw0⟩ : ∃ W0, ((w.alloc (.cells #[.int .i64 0] 3)).alloc (.cells #[.string s] 9)) = W0 := ⟨_, rfl⟩
  have hsz0 : w0.heap.size = w.heap.size + 1 + 1 := by rw [← hw0]; simp
  have bO0 : Boxed w0 w.heap.size 3 (.int .i64 0) := by rw [← hw0]; exact bO.alloc _
  rw [hw0] at hB0 bN ⊢
  clear hw0 bO
  refine wpIn_rangeFunc_ownG rfl (by omega) (gf := 55) (lb := #[.pointer (some ⟨w.heap.size + 1, 0, none⟩)]) rfl trivial (enters_of Tryd.func55 (by kernel_rfl) rfl)
    (each_stops (9 - 1) (by omega) l hl (w.heap.size + 1) w0 s HS.out bN) KpE.t (KpE.b (by omega)) (Below.refl _ _) (fun _ => rfl)
    (fun (pre : List (Cl l.length)) W => Boxed W w.heap.size 3 (.int .i64 (wsum (cls pre))) ∧ Below w.heap.size w0 W)
    (fun _ _ _ => False)
    (OwnFrom.and (Own.from (fun s A B row hs hg hr => hs.kept hg (fun e => by obtain ⟨o, ho, hc⟩ := hr _ e.symm; unfold Boxed at hs; rw [hs] at ho; cases ho; cases hc)) _) (ownFrom_below (by omega) (by omega)))
    (fun _ _ _ _ _ hs _ _ => hs)
    ⟨bO0, Below.refl _ _⟩
    (fun x : Cl l.length => { tmps := #[.string s, undef, .int .i64 0, .pointer (some ⟨w.heap.size, 0, none⟩), undef, str x.1.2, .string s, .func (.func 55) #[] #[.pointer (some ⟨w.heap.size + 1, 0, none⟩)], n64 x.1.1, str x.1.2, undef, undef, undef, undef, undef], defers := [] }) ?assign ?body ?done ?stop
  case assign =>
    intro yl x W K hK
    unfold encs
    gi_wp2
    exact hK
  case body =>
    rintro yl pre x W ⟨hv, hB⟩ hlt
    have hc := hv.cell
    have hf := hv.frozen
    have hR : w.heap.size + 1 + 1 ≤ W.heap.size := by have := hB.size; omega
    have hx := x.2
    have hws := wsum_le (cls pre)
    have hpl : (cls pre).length = pre.length := by simp [cls]
    have hwi := wid_le x.1.2
    have hsn : wsum (cls (pre ++ [x])) = wsum (cls pre) + wid x.1.2 := by rw [← wsum_snoc]; simp [cls]
    have HX := Lib.hid hx
    have HSN := Lib.hid hsn
    clear hsn hx
    generalize wsum (cls pre) = m at *
    obtain ⟨cs, hcs⟩ : ∃ cs : ByteArray, cs = ⟨x.1.2.toArray⟩ := ⟨_, rfl⟩
    have HC := Lib.hid hcs
    rw [show str x.1.2 = .string cs from by rw [hcs]]
    clear hcs
    obtain ⟨wd, hwd⟩ : ∃ d, d = wid x.1.2 := ⟨_, rfl⟩
    rw [← hwd] at hwi
    have HWD := Lib.hid hwd
    clear hwd
    have hsum : IntKind.i64.wrap (m + wd) = m + wd := IntWalk.i64_in _ (by omega)
    have hfo : Tryd.prog.follows Departure.mixedOrders = true := by kernel_rfl
    gi_wp2
    gi_region_with_o (refine ⟨trivial, ?_⟩; gi_at_call 59; refine (CallsIn.inRound yl (callsIn_wide.2 (Wide_calls x.1.2 (by have := HX.out; omega) cs HC.out _))).mono ?_; rintro e w1 ⟨rfl, hb1⟩; rw [← HWD.out]; have hv1 : Boxed w1 w.heap.size 3 (.int .i64 m) := (hb1.block _ hv.lt).trans hv; have hc1 := hv1.cell; have hf1 := hv1.frozen)
    all_goals gi_wp2
    all_goals (try go_bits)
    all_goals
      have hbW : Below W.heap.size W w1 := ⟨hb1.os, hb1.tape, hb1.output, hb1.size, hb1.block⟩
      have hk := (keepsOthers_of_below hbW).trans (KeepsOthers.setCell w1 ⟨w.heap.size, 0, none⟩ (.int .i64 (m + wd)))
      refine ⟨hk.from _, ⟨hk.walks, ?_⟩, ?_, (hB.trans (hbW.mono (by omega))).setCell (p := ⟨w.heap.size, 0, none⟩) (Nat.le_refl _) _⟩
      · exact (Below.heap_setCell _ _ _ _ (by dsimp only; omega)).trans (hbW.block _ (by omega))
      · rw [HSN.out, ← HWD.out]; exact hv1.set _
  case done =>
    rintro D ys W hD hys ⟨hv, hB⟩ hK
    have hc := hv.cell
    gi_wp2
    refine ⟨by simp, .inl ⟨_, _, rfl, run_takeDeferred hK, ?_⟩⟩
    rw [cls_val hys]
    refine ⟨_, results_tmp rfl _ _ _, rfl, ?_⟩
    exact (hB0.trans hB).trans (belowK_b (w := w) (Nat.le_refl _) W D _ _ (by omega) hK rfl rfl)
  case stop =>
    rintro D c pre W _ _ h _
    exact h.elim
end Go.Proofs.YtfgjhfmgacopoaaDoor
namespace Go.Proofs.YtfgjhfmgacopoaaDoor
open Go.RowKit Go.Shelf
attribute [local go_sem] Oper.semAt_some
theorem owns_ne {W : World} {R : Nat} {e : TypeId} {sz : Nat} {v : Value} {k : Nat} {xs : List Value} (h : W.ownsRow R e sz v k xs) {D : Nat} {o : Obj} (hD : W.heap[D]? = some o) (ho : o.isCells = false) : v.ownBlock ≠ some D := by
  intro ej
  rcases h.2 with ⟨rfl, _⟩ | ⟨g, cap, cur, rfl, _, hgb, _⟩
  · simp [Value.ownBlock] at ej
  · obtain rfl : g = D := by simpa [Value.ownBlock] using ej
    rw [hgb] at hD; cases hD; cases ho
theorem owns_lt {W : World} {R : Nat} {e : TypeId} {sz : Nat} {v : Value} {k : Nat} {xs : List Value} (h : W.ownsRow R e sz v k xs) {j : Nat} (ej : v.ownBlock = some j) : R ≤ j := by
  rcases h.2 with ⟨rfl, _⟩ | ⟨g, cap, cur, rfl, hb, _, _⟩
  · simp [Value.ownBlock] at ej
  · obtain rfl : g = j := by simpa [Value.ownBlock] using ej
    exact hb
theorem val_n64 {L : Nat} {ys : List (Cl L)} {k : Nat} {cs : List Bs} (h : val ys = ats k cs) : ys.map (fun x => n64 x.1.1) ++ [n64 (k + cs.flatten.length)] = (bnds k cs).map n64 := by
  rw [bnds_ats, List.map_append, ← h]; simp [val]
theorem bnds_len (k : Nat) (cs : List Bs) : (bnds k cs).length = cs.length + 1 := by
  rw [bnds_ats, List.length_append, List.length_map, ats_len]; rfl
set_option maxRecDepth 100000 in
set_option maxHeartbeats 2000000 in
theorem Bounds_calls (l : Bs) (hl : l.length ≤ 4294967296) (s : ByteArray) (hs : s = ⟨l.toArray⟩) (w : World) :
    Calls Tryd.prog 57 #[.string s] w fun e w' => ∃ v, e = .returned v ∧ Row w' w.heap.size 3 1 v (bnds 0 (cuts l)).length ((bnds 0 (cuts l)).map n64) ∧ Below w.heap.size w w' := by
  have hcl := cuts_len l
  have HS := Lib.hid hs
  clear hs
  refine (callsIn_wide (n := 3)).1 ?_
  obtain ⟨i0, hi, hz0, hz1, hz2⟩ := info_parts Tryd.info_int
  refine callsIn_of_wp_marks Tryd.func57 rfl trivial ?_ rfl
  simp only [Tryd.ntmps57, List.size_toArray, List.length_cons, List.length_nil, Nat.reduceAdd, Nat.reduceSub, Array.replicate_succ, Array.replicate_zero, List.push_toArray, List.append_toArray, List.nil_append, List.cons_append]
  gi_wp2_with (refine ⟨trivial, ?_⟩; gi_at_call 40; refine (callsIn_wide.2 (Each_calls _ _)).mono ?_; rintro e w' ⟨rfl, rfl⟩)
  have bO := Boxed.new w 87 (.slice none 0 0)
  have bN := Boxed.new (w.alloc (.cells #[.slice none 0 0] 87)) 9 (.string s)
  rw [World.size_alloc] at bN
  have hB0 : Below w.heap.size w ((w.alloc (.cells #[.slice none 0 0] 87)).alloc (.cells #[.string s] 9)) := ((Below.refl _ w).alloc (Nat.le_refl _) _).alloc (by simp) _
  obtain ⟨w0, hw0⟩ : ∃ W0, ((w.alloc (.cells #[.slice none 0 0] 87)).alloc (.cells #[.string s] 9)) = W0 := ⟨_, rfl⟩
  have hsz0 : w0.heap.size = w.heap.size + 1 + 1 := by rw [← hw0]; simp
  have bO0 : Boxed w0 w.heap.size 87 (.slice none 0 0) := by rw [← hw0]; exact bO.alloc _
  rw [hw0] at hB0 bN ⊢
  clear hw0 bO
  refine wpIn_rangeFunc_ownG rfl (by omega) (gf := 55) (lb := #[.pointer (some ⟨w.heap.size + 1, 0, none⟩)]) rfl trivial (enters_of Tryd.func55 (by kernel_rfl) rfl)
    (each_stops (3 - 1) (by omega) l hl (w.heap.size + 1) w0 s HS.out bN) KpE.t (KpE.b (by omega)) (Below.refl _ _) (fun _ => rfl)
    (fun (pre : List (Cl l.length)) W => (∃ v, Boxed W w.heap.size 87 v ∧ W.ownsRow (w.heap.size + 1 + 1) 3 1 v pre.length (pre.map (fun x => n64 x.1.1)) ∧ True) ∧ Below w.heap.size w0 W)
    (fun _ _ _ => False)
    (OwnFrom.and (Own.from (holdsRow_own (w.heap.size + 1 + 1) w.heap.size 87 3 1 (fun pre : List (Cl l.length) => pre.length) (fun pre => pre.map (fun x => n64 x.1.1)) (fun _ _ => True)) _) (ownFrom_below (by omega) (by omega)))
    (fun _ _ _ _ _ hs _ _ => hs)
    ⟨⟨_, bO0, World.ownsRow_nil _ _ _ _, trivial⟩, Below.refl _ _⟩
    (fun x : Cl l.length => { tmps := #[.string s, undef, .slice none 0 0, .pointer (some ⟨w.heap.size, 0, none⟩), n64 x.1.1, .string s, .func (.func 55) #[] #[.pointer (some ⟨w.heap.size + 1, 0, none⟩)], n64 x.1.1, str x.1.2, undef, undef, undef, undef, undef, undef, undef, undef, undef], defers := [] }) ?assign ?body ?done ?stop
  case assign =>
    intro yl x W K hK
    unfold encs
    gi_wp2
    exact hK
  case body =>
    rintro yl pre x W ⟨⟨v, hv, hrow, _⟩, hB⟩ hlt
    have hc := hv.cell
    have hR : w.heap.size + 1 + 1 ≤ W.heap.size := by have := hB.size; omega
    gi_wp2_with (gi_at_builtin; refine wpListIn_append_own _ rfl _ _ 87 rfl (w.heap.size + 1 + 1) 3 i0 _ 1 8 Tryd.underlying87 hi hz0 hz1 hz2 rfl (by decide) _ _ _ rfl (hrow.alloc _) ⟨W.heap.size, 0, none⟩ 1 1 [n64 x.1.1] rfl rfl (cell_one_new _ _ _) (by simp [Value.oneCell']) (by simp only [maxLen]; omega) (by omega) (by simp; omega) ?_; intro v' w1 hown' hgrow _; obtain ⟨g', cap', rfl⟩ := ownsRow_succ hown'; obtain ⟨hv1, hv2, hr2, hk2, hb2, hf2⟩ := appended2 hv (by decide) hrow hR hown' hgrow; have hc1 := hv1.cell; have hf1 := hv1.frozen)
    exact ⟨hk2.from _, ⟨keepsWalks_of hk2, hf2 _ (by omega) (by omega)⟩, ⟨_, hv2, by simpa using hr2, trivial⟩, hB.trans (hb2 _ (by omega) (by omega))⟩
  case done =>
    rintro D ys W hD hys ⟨⟨v, hv, hrow, _⟩, hB⟩ hK
    have hc := hv.cell
    have hR : w.heap.size + 1 + 1 ≤ W.heap.size := by have := hB.size; omega
    have e2 : ys.length = (cuts l).length := by
      have := congrArg List.length hys
      rw [ats_len] at this
      simpa [val] using this
    have hss : s.size = l.length := by rw [HS.out]; simp [ByteArray.size]
    gi_wp2_with (gi_at_builtin; refine wpListIn_append_own _ rfl _ _ 87 rfl (w.heap.size + 1 + 1) 3 i0 _ 1 8 Tryd.underlying87 hi hz0 hz1 hz2 rfl (by decide) _ _ _ rfl (hrow.alloc _) ⟨W.heap.size, 0, none⟩ 1 1 [n64 l.length] rfl rfl (cell_one_new _ _ _) (by simp [Value.oneCell']) (by simp only [maxLen]; omega) (by omega) (by simp; omega) ?_; intro v' w1 hown' hgrow _; obtain ⟨g', cap', rfl⟩ := ownsRow_succ hown')
    have hgrow' : (W.alloc (.cells #[n64 l.length] 3)).grownBy w1 v.ownBlock := hgrow
    have hK1 : w1.heap[D]? = some (.deferred (some [])) := app_heap hgrow' hK (owns_ne hrow hK rfl)
    have hB1 : Below w.heap.size w w1 := app_below (hB0.trans hB) (by omega) hgrow' (fun k e => by have := owns_lt hrow e; omega)
    refine ⟨by simp, .inl ⟨_, _, rfl, run_takeDeferred hK1, ?_⟩⟩
    have e3 := val_n64 hys
    rw [cuts_flat, Nat.zero_add] at e3
    rw [e3, e2] at hown'
    refine ⟨_, results_tmp rfl _ _ _, _, rfl, ?_, hB1.trans (belowK_b (w := w) (Nat.le_refl _) w1 D _ _ (by omega) hK1 rfl rfl)⟩
    rw [bnds_len]
    exact (Row.of_owns (ownsRow_putObj hown' _ hK1 rfl)).mono (by omega)
  case stop =>
    rintro D c pre W _ _ h _
    exact h.elim
end Go.Proofs.YtfgjhfmgacopoaaDoor
