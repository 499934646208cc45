import Derived.Test.YtpemjhghiccngaaDoorHs21
import Derived.Test.YtpemjhghiccngaaDoorWe
namespace Go.Proofs.YtpemjhghiccngaaDoor
set_option linter.unusedVariables false
set_option linter.unusedSimpArgs false
open Go.RowKit Go.Shelf
/-! slices.Index of a text. -/
set_option maxRecDepth 100000 in
set_option maxHeartbeats 800000 in
theorem idxT_calls (w : World) (A : Option Addr) (c : Nat) (l : List Bs) (hr : Rd w A (l.map str)) (hl : l.length ≤ 1000000) (s : Bs) (sb : ByteArray) (hs : sb = ⟨s.toArray⟩) :
    Calls Tryd.prog 48 #[.slice A l.length c, .string sb] w fun e w' => e = .returned (.int .i64 (idxI l fun x => decide (x = s))) ∧ w = w' := by
  have HR := Lib.hid hr
  have HS := Lib.hid hs
  clear hr hs
  go_enter Tryd.func48, Tryd.ntmps48
  go_wp2
  go_loop [8] (fun u8 => ∃ k : Nat, u8 = n64 k ∧ k ≤ l.length ∧ Hid (∀ y ∈ l.take k, decide (y = s) = false)) (fun u8 => (l.length - intOf u8).toNat)
  case atStart => exact ⟨0, rfl, Nat.zero_le _, Lib.hid (by simp)⟩
  case round =>
    obtain ⟨k, rfl, hk, hno⟩ := hrel
    by_cases hlt : k < l.length
    · obtain ⟨x, hx⟩ : ∃ x, l[k]? = some x := ⟨_, List.getElem?_eq_getElem hlt⟩
      obtain ⟨g, off, rfl, c0⟩ := HR.out k (str x) (by rw [List.getElem?_map, hx]; rfl)
      obtain ⟨sx, hsx⟩ : ∃ q : ByteArray, q = ⟨x.toArray⟩ := ⟨_, rfl⟩
      have hbe := str_beq HS.out hsx
      rw [lit_of hsx] at c0
      have HX := Lib.hid hx
      have b1 : (k : Int) < (l.length : Int) := by omega
      clear hx hsx
      by_cases hpx : x = s
      · rw [decide_eq_true hpx.symm] at hbe
        have hfin : idxI l (fun x => decide (x = s)) = (k : Int) := idxI_at HX.out (decide_eq_true hpx) hno.out
        have HF := Lib.hid hfin
        clear hfin hpx
        go_wp2
        go_ret
        exact ⟨by rw [HF.out]; rfl, rfl⟩
      · rw [decide_eq_false (Ne.symm hpx)] at hbe
        have hno' : Hid (∀ y ∈ l.take (k + 1), decide (y = s) = false) := Lib.hid (by
          intro y hy
          rw [List.take_add_one, HX.out] at hy
          rcases List.mem_append.1 hy with e | e
          · exact hno.out y e
          · have : y = x := by simpa using e
            rw [this]; exact decide_eq_false hpx)
        clear hpx
        go_wp2
        go_round
        case rel => exact ⟨k + 1, by go_num, by omega, hno'⟩
        case measure => simp [intOf]; omega
    · obtain rfl : k = l.length := by omega
      have hfin : idxI l (fun x => decide (x = s)) = -1 := idxI_none (by have := hno.out; rwa [List.take_length] at this)
      have HF := Lib.hid hfin
      clear hfin
      go_wp2
      go_ret
      exact ⟨by rw [HF.out]; rfl, rfl⟩
/-! A range backwards, and forwards. -/
abbrev IB := Nat × Bs
def encB (x : IB) : Array Value := #[n64 x.1, .string ⟨x.2.toArray⟩]
def bwdK (cs : List Bs) : Nat → List IB
  | 0 => []
  | k + 1 => (k, cs.getD k []) :: bwdK cs k
def fwdA : Nat → List Bs → List IB
  | _, [] => []
  | j, c :: cs => (j, c) :: fwdA (j + 1) cs
theorem bwdK_len (cs : List Bs) : (k : Nat) → (bwdK cs k).length = k
  | 0 => rfl
  | k + 1 => by rw [bwdK, List.length_cons, bwdK_len cs k]
theorem fwdA_len : (j : Nat) → (cs : List Bs) → (fwdA j cs).length = cs.length
  | _, [] => rfl
  | j, c :: cs => by rw [fwdA, List.length_cons, fwdA_len (j + 1) cs, List.length_cons]
theorem bwdK_snd (cs : List Bs) : (k : Nat) → k ≤ cs.length → (bwdK cs k).map (·.2) = (cs.take k).reverse
  | 0, _ => by simp [bwdK]
  | k + 1, h => by
      have e1 : cs.take (k + 1) = cs.take k ++ [cs[k]] := by rw [List.take_add_one, List.getElem?_eq_getElem (by omega)]; rfl
      rw [bwdK, List.map_cons, bwdK_snd cs k (by omega), e1, List.reverse_append]
      simp [List.getD, List.getElem?_eq_getElem (show k < cs.length by omega)]
theorem fwdA_snd : (j : Nat) → (cs : List Bs) → (fwdA j cs).map (·.2) = cs
  | _, [] => rfl
  | j, c :: cs => by rw [fwdA, List.map_cons, fwdA_snd (j + 1) cs]
/-- What a loop's body keeps of what a range over a slice reads. -/
def KpB (Bx : Nat) (A : Option Addr) (W W' : World) : Prop := W'.heap[Bx]? = W.heap[Bx]? ∧ ∀ a, A = some a → W'.heap[a.block]? = W.heap[a.block]?
theorem KpB.t {Bx : Nat} {A : Option Addr} {a b c : World} (h : KpB Bx A a b) (k : KpB Bx A b c) : KpB Bx A a c := ⟨k.1.trans h.1, fun x hx => (k.2 x hx).trans (h.2 x hx)⟩
theorem KpB.b {Bx : Nat} {A : Option Addr} {w : World} (hn : Bx < w.heap.size) (hA : ∀ a, A = some a → a.block < w.heap.size) (W : World) (l : Nat) (o o' : Obj) (hl : w.heap.size ≤ l) (h : W.heap[l]? = some o) (_ : o.isCells = false) (hw : o.isWalk = false) : KpB Bx A W (W.putObj l o') :=
  ⟨World.putObj_heap_other (by omega), fun a ha => World.putObj_heap_other (by have := hA a ha; omega)⟩
theorem Rd.kpB {W W' : World} {Bx : Nat} {A : Option Addr} {xs : List Value} (h : Rd W A xs) (k : KpB Bx A W W') : Rd W' A xs := by
  intro i u hu
  obtain ⟨b, off, e, hc⟩ := h i u hu
  have hk : W'.heap[b]? = W.heap[b]? := k.2 _ e
  exact ⟨b, off, e, by rw [World.cell?_of_block (w := W) hk]; exact hc⟩
attribute [local go_sem] Oper.semAt_some
set_option maxHeartbeats 2000000 in
set_option maxRecDepth 100000 in
theorem back1_in (n : Nat) (hn : 1 ≤ n) (cs : List Bs) (hl : cs.length ≤ 1000000) (A : Option Addr) (cap : Nat) (yl Bx : Nat) (J Jx : List IB → World → Prop) (W : World) (hJ : AbidesFrom W.heap.size J)
    (hY : ∀ pre x W1, J pre W1 → pre.length < cs.length → x.2 ∈ cs → YieldAt Fence.wide (n - 1) Tryd.prog yl (encB x) W1 fun e W' => (e = .returned (.bool true) ∧ J (pre ++ [x]) W' ∧ KpB Bx A W1 W') ∨ (e = .returned (.bool false) ∧ Jx (pre ++ [x]) W'))
    (hBx : Boxed W Bx 29 (.slice A cs.length cap)) (hr : Rd W A (cs.map str)) (h0 : J [] W) :
    CallsIn Fence.wide n Tryd.prog 59 #[.func (.yield yl) #[] #[], .pointer (some ⟨Bx, 0, none⟩)] W fun e W' => (∃ v, e = .returned v) ∧
      ((∃ xs : List IB, xs = bwdK cs cs.length ∧ J xs W') ∨ (∃ pre : List IB, pre <+: bwdK cs cs.length ∧ Jx pre W')) := by
  have HY := Lib.hid hY
  have HJ := Lib.hid hJ
  have HR := Lib.hid hr
  have HB := Lib.hid hBx
  have hc := hBx.cell
  have hlt := hBx.lt
  clear hY hJ hr hBx
  refine callsIn_of_wp Tryd.func59 rfl trivial ?_
  simp only [Tryd.ntmps59, List.size_toArray, List.length_cons, List.length_nil, Nat.reduceAdd, Nat.reduceSub, Array.replicate_succ, Array.replicate_zero, List.push_toArray, List.append_toArray, List.nil_append, List.cons_append]
  have hw0 : IntKind.i64.wrap ((cs.length : Int) - 1) = (cs.length : Int) - 1 := IntWalk.i64_in _ (by omega)
  gi_wp2
  clear hw0
  gi_loopw [3] (fun u3 wr => ∃ (k : Nat) (z : Int) (pre : List IB), u3 = .int .i64 z ∧ Hid (z = (k : Int) - 1) ∧ k ≤ cs.length ∧ Hid (J pre wr) ∧ Hid (pre ++ bwdK cs k = bwdK cs cs.length) ∧ Hid (KpB Bx A W wr)) (fun u3 wr => (intOf u3 + 1).toNat)
  case atStart => exact ⟨cs.length, _, [], rfl, Lib.hid rfl, Nat.le_refl _, Lib.hid h0, Lib.hid rfl, Lib.hid ⟨rfl, fun _ _ => rfl⟩⟩
  case round =>
    obtain ⟨k, z, pre, rfl, HZ, hk, HJP, HP, HK⟩ := hrel
    cases k with
    | zero =>
      obtain rfl : z = -1 := by have := HZ.out; omega
      clear hc
      gi_wp2
      go_end0
      have hp := HP.out
      rw [bwdK, List.append_nil] at hp
      exact ⟨⟨_, rfl⟩, .inl ⟨_, hp, HJP.out⟩⟩
    | succ k =>
      obtain rfl : z = (k : Int) := by have := HZ.out; omega
      have hkl : k < cs.length := by omega
      have hbx2 : Boxed wr Bx 29 (.slice A cs.length cap) := HK.out.1.trans HB.out
      have hc2 := hbx2.cell
      have hplen : pre.length < cs.length := by
        have := congrArg List.length HP.out
        rw [List.length_append, bwdK_len, bwdK_len] at this; omega
      obtain ⟨x, hx⟩ : ∃ x, cs[k]? = some x := ⟨_, List.getElem?_eq_getElem hkl⟩
      have hgd : cs.getD k [] = x := by rw [List.getD_eq_getElem?_getD, hx]; rfl
      obtain ⟨g, off, rfl, c0⟩ := (HR.out.kpB HK.out) k (str x) (by rw [List.getElem?_map, hx]; rfl)
      obtain ⟨fn, tmps, assign, body, hy, hR⟩ := HY.out pre (k, x) wr HJP.out hplen (List.mem_of_getElem? hx)
      unfold encB at hy
      dsimp only at hy
      have hP2 : (pre ++ [(k, x)]) ++ bwdK cs k = bwdK cs cs.length := by rw [← HP.out, bwdK, hgd]; simp
      have HP2 := Lib.hid hP2
      have b1 : (k : Int) < (cs.length : Int) := by omega
      have b0 : (0 : Int) ≤ (k : Int) := by omega
      have hwk : IntKind.i64.wrap ((k : Int) - 1) = (k : Int) - 1 := IntWalk.i64_in _ (by omega)
      clear hP2 hgd hx hplen hc
      gi_wp2
      refine hR.mono ?_
      rintro e W3 (⟨rfl, hJ4, hk4⟩ | ⟨rfl, hJx4⟩)
      · have HJ4 := Lib.hid hJ4
        have HK4 := Lib.hid (HK.out.t hk4)
        clear hJ4 hk4 hc2
        gi_wp2
        go_roundw
        case rel => exact ⟨k, _, _, rfl, Lib.hid (by omega), by omega, HJ4, HP2, HK4⟩
        case measure => simp [intOf]
      · have HJ4 := Lib.hid hJx4
        clear hJx4 hc2
        gi_wp2
        refine bodyPost_ret (results_none rfl _ _ _) rfl ?_
        exact ⟨⟨_, rfl⟩, .inr ⟨_, ⟨_, HP2.out⟩, HJ4.out⟩⟩
end Go.Proofs.YtpemjhghiccngaaDoor
namespace Go.Proofs.YtpemjhghiccngaaDoor
set_option linter.unusedVariables false
set_option linter.unusedSimpArgs false
open Go.RowKit Go.Shelf
attribute [local go_sem] Oper.semAt_some
theorem fwd_split {cs : List Bs} {k : Nat} {x : Bs} (hx : cs[k]? = some x) : fwdA k (cs.drop k) = (k, x) :: fwdA (k + 1) (cs.drop (k + 1)) := by
  obtain ⟨hk, e⟩ := List.getElem?_eq_some_iff.1 hx
  rw [List.drop_eq_getElem_cons hk, e, fwdA]
set_option maxHeartbeats 2000000 in
set_option maxRecDepth 100000 in
theorem fwd1_in (n : Nat) (hn : 1 ≤ n) (cs : List Bs) (hl : cs.length ≤ 1000000) (A : Option Addr) (cap : Nat) (yl Bx : Nat) (J Jx : List IB → World → Prop) (W : World) (hJ : AbidesFrom W.heap.size J)
    (hY : ∀ pre x W1, J pre W1 → pre.length < cs.length → x.2 ∈ cs → YieldAt Fence.wide (n - 1) Tryd.prog yl (encB x) W1 fun e W' => (e = .returned (.bool true) ∧ J (pre ++ [x]) W' ∧ KpB Bx A W1 W') ∨ (e = .returned (.bool false) ∧ Jx (pre ++ [x]) W'))
    (hBx : Boxed W Bx 29 (.slice A cs.length cap)) (hr : Rd W A (cs.map str)) (h0 : J [] W) :
    CallsIn Fence.wide n Tryd.prog 60 #[.func (.yield yl) #[] #[], .pointer (some ⟨Bx, 0, none⟩)] W fun e W' => (∃ v, e = .returned v) ∧
      ((∃ xs : List IB, xs = fwdA 0 cs ∧ J xs W') ∨ (∃ pre : List IB, pre <+: fwdA 0 cs ∧ Jx pre W')) := by
  have HY := Lib.hid hY
  have HJ := Lib.hid hJ
  have HR := Lib.hid hr
  have HB := Lib.hid hBx
  have hc := hBx.cell
  have hlt := hBx.lt
  clear hY hJ hr hBx
  refine callsIn_of_wp Tryd.func60 rfl trivial ?_
  simp only [Tryd.ntmps60, List.size_toArray, List.length_cons, List.length_nil, Nat.reduceAdd, Nat.reduceSub, Array.replicate_succ, Array.replicate_zero, List.push_toArray, List.append_toArray, List.nil_append, List.cons_append]
  gi_wp2
  gi_loopw [7] (fun u7 wr => ∃ (k : Nat) (pre : List IB), u7 = n64 k ∧ k ≤ cs.length ∧ Hid (J pre wr) ∧ Hid (pre ++ fwdA k (cs.drop k) = fwdA 0 cs) ∧ Hid (KpB Bx A W wr)) (fun u7 wr => (cs.length - intOf u7).toNat)
  case atStart => exact ⟨0, [], rfl, Nat.zero_le _, Lib.hid h0, Lib.hid rfl, Lib.hid ⟨rfl, fun _ _ => rfl⟩⟩
  case round =>
    obtain ⟨k, pre, rfl, hk, HJP, HP, HK⟩ := hrel
    clear hc
    by_cases hkl : k < cs.length
    · have hplen : pre.length < cs.length := by
        have := congrArg List.length HP.out
        rw [List.length_append, fwdA_len, fwdA_len, List.length_drop] at this; omega
      obtain ⟨x, hx⟩ : ∃ x, cs[k]? = some x := ⟨_, List.getElem?_eq_getElem hkl⟩
      obtain ⟨g, off, rfl, c0⟩ := (HR.out.kpB HK.out) k (str x) (by rw [List.getElem?_map, hx]; rfl)
      obtain ⟨fn, tmps, assign, body, hy, hR⟩ := HY.out pre (k, x) wr HJP.out hplen (List.mem_of_getElem? hx)
      unfold encB at hy
      dsimp only at hy
      have hP2 : (pre ++ [(k, x)]) ++ fwdA (k + 1) (cs.drop (k + 1)) = fwdA 0 cs := by rw [← HP.out, fwd_split hx]; simp
      have HP2 := Lib.hid hP2
      have b1 : (k : Int) < (cs.length : Int) := by omega
      have b0 : (0 : Int) ≤ (k : Int) := by omega
      clear hP2 hx hplen
      gi_wp2
      refine hR.mono ?_
      rintro e W3 (⟨rfl, hJ4, hk4⟩ | ⟨rfl, hJx4⟩)
      · have HJ4 := Lib.hid hJ4
        have HK4 := Lib.hid (HK.out.t hk4)
        clear hJ4 hk4
        gi_wp2
        go_roundw
        case rel => exact ⟨k + 1, _, by go_num, by omega, HJ4, HP2, HK4⟩
        case measure => simp [intOf]; omega
      · have HJ4 := Lib.hid hJx4
        clear hJx4
        gi_wp2
        refine bodyPost_ret (results_none rfl _ _ _) rfl ?_
        exact ⟨⟨_, rfl⟩, .inr ⟨_, ⟨_, HP2.out⟩, HJ4.out⟩⟩
    · obtain rfl : k = cs.length := by omega
      have hp := HP.out
      rw [List.drop_length, fwdA, List.append_nil] at hp
      have HP3 := Lib.hid hp
      clear hp
      gi_wp2
      go_end0
      exact ⟨⟨_, rfl⟩, .inl ⟨_, HP3.out, HJP.out⟩⟩
theorem Backward_calls (w : World) (A : Option Addr) (n c : Nat) : Calls Tryd.prog 47 #[.slice A n c] w fun e w' => e = .returned (fnV 59 w.heap.size) ∧ w' = w.alloc (.cells #[.slice A n c] 29) := by
  go_enter Tryd.func47, Tryd.ntmps47
  go_wp2
  go_ret
  exact ⟨rfl, rfl⟩
theorem All_calls (w : World) (A : Option Addr) (n c : Nat) : Calls Tryd.prog 50 #[.slice A n c] w fun e w' => e = .returned (fnV 60 w.heap.size) ∧ w' = w.alloc (.cells #[.slice A n c] 29) := by
  go_enter Tryd.func50, Tryd.ntmps50
  go_wp2
  go_ret
  exact ⟨rfl, rfl⟩
theorem back_stops (n : Nat) (hn : 1 ≤ n) (cs : List Bs) (hl : cs.length ≤ 1000000) (A : Option Addr) (cap : Nat) (Bx : Nat) (w : World) (hb : Boxed w Bx 29 (.slice A cs.length cap)) (hr : Rd w A (cs.map str)) :
    SeqStopsK Fence.wide n Tryd.prog 59 #[.pointer (some ⟨Bx, 0, none⟩)] encB (KpB Bx A) (fun xs => xs = bwdK cs cs.length) (fun pre => pre <+: bwdK cs cs.length) cs.length w := by
  intro yl J Jx W hW hJ _ hY h0
  exact back1_in n hn cs hl A cap yl Bx J Jx W hJ (fun pre x W1 h k _ => hY pre x W1 h k) ((hW.block Bx hb.lt).trans hb) (hr.later hW) h0
theorem fwd_stops (n : Nat) (hn : 1 ≤ n) (cs : List Bs) (hl : cs.length ≤ 1000000) (A : Option Addr) (cap : Nat) (Bx : Nat) (w : World) (hb : Boxed w Bx 29 (.slice A cs.length cap)) (hr : Rd w A (cs.map str)) :
    SeqStopsK Fence.wide n Tryd.prog 60 #[.pointer (some ⟨Bx, 0, none⟩)] encB (KpB Bx A) (fun xs => xs = fwdA 0 cs) (fun pre => pre <+: fwdA 0 cs) cs.length w := by
  intro yl J Jx W hW hJ _ hY h0
  exact fwd1_in n hn cs hl A cap yl Bx J Jx W hJ (fun pre x W1 h k _ => hY pre x W1 h k) ((hW.block Bx hb.lt).trans hb) (hr.later hW) h0
set_option maxRecDepth 100000 in
set_option maxHeartbeats 2000000 in
/-- Cmds. -/
theorem HCmds_calls (w : World) {hb : Nat} {l : List EntT} {c : List Bs} {fp : List Nat} (h : Hi w hb l c fp) (hcl : c.length ≤ 1000000) :
    Calls Tryd.prog 19 #[hptr hb] w fun e w' => ∃ A1 c1, e = .returned (.slice A1 c.length c1) ∧ Row w' w.heap.size 9 1 (.slice A1 c.length c1) c.length (c.reverse.map str) ∧ Below w.heap.size w w' := by
  obtain ⟨vl, vc, ⟨h1, h2, h3⟩, rfl⟩ := h
  obtain ⟨A, cap, rfl, _, _, hrd, hA⟩ := h3.rd
  obtain ⟨k0, k1, _, _⟩ := hi_cells h1
  have hbl := lt_of_heap h1
  have HA := Lib.hid hrd
  have hAlt : ∀ a, A = some a → a.block < w.heap.size := fun a h => (hA a h).2
  have HAL := Lib.hid hAlt
  clear h1 h2 h3 hrd hA hAlt
  refine (callsIn_wide (n := 3)).1 ?_
  obtain ⟨i0, hi, hz0, hz1, hz2⟩ := info_parts Tryd.info_str
  refine callsIn_of_wp_marks Tryd.func19 rfl trivial ?_ rfl
  simp only [Tryd.ntmps19, List.size_toArray, List.length_cons, List.length_nil, Nat.reduceAdd, Nat.reduceSub, Array.replicate_succ, Array.replicate_zero, List.push_toArray, List.append_toArray, List.nil_append, List.cons_append]
  gi_wp2_with (refine ⟨trivial, ?_⟩; gi_at_call 47; refine (callsIn_wide.2 (Backward_calls _ _ _ _)).mono ?_; rintro e w' ⟨rfl, rfl⟩)
  have bO := Boxed.new w 29 (.slice none 0 0)
  have bN := Boxed.new (w.alloc (.cells #[.slice none 0 0] 29)) 29 (.slice A c.length cap)
  rw [World.size_alloc] at bN
  have hB0 : Below w.heap.size w ((w.alloc (.cells #[.slice none 0 0] 29)).alloc (.cells #[.slice A c.length cap] 29)) := ((Below.refl _ w).alloc (Nat.le_refl _) _).alloc (by simp) _
  obtain ⟨w0, hw0⟩ : ∃ W0, ((w.alloc (.cells #[.slice none 0 0] 29)).alloc (.cells #[.slice A c.length cap] 29)) = W0 := ⟨_, rfl⟩
  have hsz0 : w0.heap.size = w.heap.size + 1 + 1 := by rw [← hw0]; simp
  have bO0 : Boxed w0 w.heap.size 29 (.slice none 0 0) := by rw [← hw0]; exact bO.alloc _
  rw [hw0] at hB0 bN ⊢
  clear hw0 bO k0 k1
  have hrd0 := HA.out.later hB0
  have hal := HAL.out
  refine wpIn_rangeFunc_ownG rfl (by omega) (gf := 59) (lb := #[.pointer (some ⟨w.heap.size + 1, 0, none⟩)]) rfl trivial (enters_of Tryd.func59 (by kernel_rfl) rfl)
    (back_stops (3 - 1) (by omega) c hcl A cap (w.heap.size + 1) w0 bN hrd0) KpB.t (KpB.b (by omega) (fun a ha => by have := hal a ha; omega)) (Below.refl _ _) (fun _ => rfl)
    (fun (pre : List IB) W => (∃ v, Boxed W w.heap.size 29 v ∧ W.ownsRow (w.heap.size + 1 + 1) 9 1 v pre.length (pre.map (fun x => str x.2)) ∧ True) ∧ Below w.heap.size w0 W)
    (fun _ _ _ => False)
    (OwnFrom.and (Own.from (holdsRow_own (w.heap.size + 1 + 1) w.heap.size 29 9 1 (fun pre : List IB => pre.length) (fun pre => pre.map (fun x => str x.2)) (fun _ _ => True)) _) (ownFrom_below (by omega) (by omega)))
    (fun _ _ _ _ _ hs _ _ => hs)
    ⟨⟨_, bO0, World.ownsRow_nil _ _ _ _, trivial⟩, Below.refl _ _⟩
    (fun x : IB => { tmps := #[hptr hb, undef, .slice none 0 0, .pointer (some ⟨w.heap.size, 0, none⟩), undef, str x.2, hptr hb, .pointer (some ⟨hb, 0, none⟩), .pointer (some ⟨hb, 1, none⟩), .slice A c.length cap, fnV 59 (w.heap.size + 1), n64 x.1, str x.2, undef, undef, undef, undef, undef], defers := [] }) ?assign ?body ?done ?stop
  case assign =>
    intro yl x W K hK
    unfold encB
    gi_wp2
    exact hK
  case body =>
    rintro yl pre x W ⟨⟨v, hv, hrow, _⟩, hB⟩ hlt
    have hc := hv.cell
    have hR : w.heap.size + 1 + 1 ≤ W.heap.size := by have := hB.size; omega
    clear hal hrd0
    gi_wp2_with (gi_at_builtin; refine wpListIn_append_own _ rfl _ _ 29 rfl (w.heap.size + 1 + 1) 9 i0 _ 1 16 Tryd.underlying29 hi hz0 hz1 hz2 rfl (by decide) _ _ _ rfl (hrow.alloc _) ⟨W.heap.size, 0, none⟩ 1 1 [str x.2] rfl rfl (cell_one_new _ _ _) (by simp [Value.oneCell']) (by simp only [maxLen]; omega) (by omega) (by simp; omega) ?_; intro v' w1 hown' hgrow _; obtain ⟨g', cap', rfl⟩ := ownsRow_succ hown'; obtain ⟨hv1, hv2, hr2, hk2, hb2, hf2⟩ := appended2 hv (by decide) hrow hR hown' hgrow; have hc1 := hv1.cell; have hf1 := hv1.frozen)
    exact ⟨hk2.from _, ⟨hf2 _ (by omega) (by omega), fun a ha => hf2 _ (by have := HAL.out a ha; omega) (by have := HAL.out a ha; omega)⟩, ⟨_, hv2, by simpa using hr2, trivial⟩, hB.trans (hb2 _ (by omega) (by omega))⟩
  case done =>
    rintro D ys W hD hys ⟨⟨v, hv, hrow, _⟩, hB⟩ hK
    have hc := hv.cell
    clear hal hrd0
    gi_wp2
    refine ⟨by simp, .inl ⟨_, _, rfl, run_takeDeferred hK, ?_⟩⟩
    have e : ys.map (fun x => str x.2) = c.reverse.map str := by
      have h2 := bwdK_snd c c.length (Nat.le_refl _)
      rw [List.take_length] at h2
      rw [hys, ← h2]; simp
    have e2 : ys.length = c.length := by rw [hys, bwdK_len]
    rw [e, e2] at hrow
    have hrow2 := (Row.of_owns (ownsRow_putObj hrow (.deferred none) hK rfl)).mono (show w.heap.size ≤ w.heap.size + 1 + 1 by omega)
    obtain ⟨A1, c1, rfl, _⟩ := hrow2.rd
    exact ⟨_, results_tmp rfl _ _ _, A1, c1, rfl, hrow2, (hB0.trans hB).trans (belowK_b (w := w) (Nat.le_refl _) W D _ _ (by omega) hK rfl rfl)⟩
  case stop =>
    rintro D c pre W _ _ h _
    exact h.elim
/-! The same, of texts no longer than L. -/
abbrev CB (L : Nat) := { x : IB // x.2.length ≤ L }
def encC {L : Nat} (x : CB L) : Array Value := encB x.1
def J2 {L : Nat} (J : List (CB L) → World → Prop) (pre : List IB) (W : World) : Prop := ∃ q : List (CB L), q.map (·.1) = pre ∧ J q W
theorem J2.from {L B : Nat} {J : List (CB L) → World → Prop} (h : AbidesFrom B J) : AbidesFrom B (J2 J) := by
  rintro s A C row ⟨q, e, hq⟩ hg hr
  exact ⟨q, e, h q A C row hq hg hr⟩
theorem J2.yield {L n yl N : Nat} {Kp : World → World → Prop} {J Jx : List (CB L) → World → Prop} {pre : List IB} {x : IB} (hx : x.2.length ≤ L)
    (hY : ∀ pre x W1, J pre W1 → pre.length < N → YieldAt Fence.wide n Tryd.prog yl (encC x) W1 fun e W' => (e = .returned (.bool true) ∧ J (pre ++ [x]) W' ∧ Kp W1 W') ∨ (e = .returned (.bool false) ∧ Jx (pre ++ [x]) W')) (W1 : World) (h : J2 J pre W1) (hl : pre.length < N) :
    YieldAt Fence.wide n Tryd.prog yl (encB x) W1 fun e W' => (e = .returned (.bool true) ∧ J2 J (pre ++ [x]) W' ∧ Kp W1 W') ∨ (e = .returned (.bool false) ∧ J2 Jx (pre ++ [x]) W') := by
  obtain ⟨q, rfl, hq⟩ := h
  obtain ⟨fn, tmps, assign, body, h1, h2⟩ := hY q ⟨x, hx⟩ W1 hq (by simpa using hl)
  refine ⟨fn, tmps, assign, body, h1, h2.mono ?_⟩
  rintro e W' (⟨rfl, a, b⟩ | ⟨rfl, a⟩)
  · exact .inl ⟨rfl, ⟨_, by simp, a⟩, b⟩
  · exact .inr ⟨rfl, ⟨_, by simp, a⟩⟩
theorem back_stopsC (L : Nat) (n : Nat) (hn : 1 ≤ n) (cs : List Bs) (hl : cs.length ≤ 1000000) (hL : ∀ c ∈ cs, c.length ≤ L) (A : Option Addr) (cap : Nat) (Bx : Nat) (w : World) (hb : Boxed w Bx 29 (.slice A cs.length cap)) (hr : Rd w A (cs.map str)) :
    SeqStopsK Fence.wide n Tryd.prog 59 #[.pointer (some ⟨Bx, 0, none⟩)] encC (KpB Bx A) (fun xs : List (CB L) => xs.map (·.1) = bwdK cs cs.length) (fun pre => pre.map (·.1) <+: bwdK cs cs.length) cs.length w := by
  intro yl J Jx W hW hJ hJx hY h0
  refine (back1_in n hn cs hl A cap yl Bx (J2 J) (J2 Jx) W (J2.from hJ) (fun pre x W1 h k m => J2.yield (hL _ m) hY W1 h k) ((hW.block Bx hb.lt).trans hb) (hr.later hW) ⟨[], rfl, h0⟩).mono ?_
  rintro e W' ⟨h1, ⟨xs, rfl, q, e1, h2⟩ | ⟨pre, h3, q, rfl, h2⟩⟩
  · exact ⟨h1, .inl ⟨q, e1, h2⟩⟩
  · exact ⟨h1, .inr ⟨q, h3, h2⟩⟩
theorem fwd_stopsC (L : Nat) (n : Nat) (hn : 1 ≤ n) (cs : List Bs) (hl : cs.length ≤ 1000000) (hL : ∀ c ∈ cs, c.length ≤ L) (A : Option Addr) (cap : Nat) (Bx : Nat) (w : World) (hb : Boxed w Bx 29 (.slice A cs.length cap)) (hr : Rd w A (cs.map str)) :
    SeqStopsK Fence.wide n Tryd.prog 60 #[.pointer (some ⟨Bx, 0, none⟩)] encC (KpB Bx A) (fun xs : List (CB L) => xs.map (·.1) = fwdA 0 cs) (fun pre => pre.map (·.1) <+: fwdA 0 cs) cs.length w := by
  intro yl J Jx W hW hJ hJx hY h0
  refine (fwd1_in n hn cs hl A cap yl Bx (J2 J) (J2 Jx) W (J2.from hJ) (fun pre x W1 h k m => J2.yield (hL _ m) hY W1 h k) ((hW.block Bx hb.lt).trans hb) (hr.later hW) ⟨[], rfl, h0⟩).mono ?_
  rintro e W' ⟨h1, ⟨xs, rfl, q, e1, h2⟩ | ⟨pre, h3, q, rfl, h2⟩⟩
  · exact ⟨h1, .inl ⟨q, e1, h2⟩⟩
  · exact ⟨h1, .inr ⟨q, h3, h2⟩⟩
end Go.Proofs.YtpemjhghiccngaaDoor
