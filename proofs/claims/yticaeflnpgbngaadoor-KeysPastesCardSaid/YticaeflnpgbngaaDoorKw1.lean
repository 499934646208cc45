import Derived.Test.YticaeflnpgbngaaDoorK1
import Derived.Test.YticaeflnpgbngaaDoorSg5
import Derived.Test.YticaeflnpgbngaaDoorWo
import Derived.Maps.OwnOps
import Derived.Maps.Views
namespace Go.Proofs.YticaeflnpgbngaaDoor
set_option linter.unusedVariables false
set_option linter.unusedSimpArgs false
open Go.RowKit
/-! The decoder in memory. -/
def keyCells (q : KeyT) : List Value := [n64 q.k, str q.t]
def flatK (l : List KeyT) : List Value := (l.map keyCells).flatten
theorem flatK_app (a b : List KeyT) : flatK (a ++ b) = flatK a ++ flatK b := by simp [flatK]
theorem flatK_len (l : List KeyT) : (flatK l).length = l.length * 2 := by
  induction l with
  | nil => rfl
  | cons q l ih =>
    show (keyCells q ++ flatK l).length = _
    rw [List.length_append, ih, List.length_cons]; show 2 + _ = _; omega
theorem Tryd.info_key : (Tryd.prog.info? 46).map (fun i => (i.zero, i.size, i.bytes)) = some (some (.agg #[.int .i64 0, .string ByteArray.empty]), 2, 24) := by kernel_rfl
/-- A row of keys, in a block from B on. -/
abbrev RowK (w : World) (B : Nat) (v : Value) (l : List KeyT) : Prop := Row w B 46 2 v l.length (flatK l)
theorem keyone_calls (k : Int) (w : World) : Calls Tryd.prog 30 #[.int .i64 k] w fun e w' => e = .returned (.slice (some ⟨w.heap.size, 0, none⟩) 1 1) ∧ w' = w.alloc (.cells #[.int .i64 k, .string ⟨#[]⟩] 46) := by
  go_enter Tryd.func30, Tryd.ntmps30
  go_wp2
  go_ret
  exact ⟨rfl, rfl⟩
theorem final_calls (x : UInt8) (w : World) : Calls Tryd.prog 50 #[byt x] w fun e w' => e = .returned (.bool (decide (fin x))) ∧ w = w' := by
  go_enter Tryd.func50, Tryd.ntmps50
  by_cases h1 : 64 ≤ x.toNat
  · have hf : decide (fin x) = decide ((x.toNat : Int) ≤ 126) := by
      by_cases h2 : x.toNat ≤ 126
      · rw [decide_eq_true (show fin x from ⟨h1, h2⟩), decide_eq_true (by omega)]
      · rw [decide_eq_false (fun h : fin x => h2 h.2), decide_eq_false (by omega)]
    have HF := Lib.hid hf
    clear hf
    go_wp2
    go_ret
    exact ⟨by rw [HF.out]; rfl, rfl⟩
  · have hf : decide (fin x) = false := decide_eq_false fun h => h1 h.1
    have i1 : ¬ ((64 : Int) ≤ (x.toNat : Int)) := by omega
    have HF := Lib.hid hf
    clear hf h1
    go_wp2
    go_ret
    exact ⟨by rw [HF.out]; rfl, rfl⟩
def rbK (v : Value) : List Nat := match v.ownBlock with | some g => [g] | none => []
theorem rbK_of {v : Value} {g : Nat} (h : g ∈ rbK v) : v.ownBlock = some g := by
  unfold rbK at h
  cases hv : v.ownBlock with
  | none => rw [hv] at h; cases h
  | some k => rw [hv] at h; rw [List.mem_singleton.1 h]
theorem rbK_mem {v : Value} {g : Nat} (h : v.ownBlock = some g) : g ∈ rbK v := by unfold rbK; rw [h]; exact List.mem_singleton.2 rfl
/-- A decoder in its block: what waits in its feed, and its sequence, in rows of their own. -/
structure DcAt (w : World) (db : Nat) (d : Dc) (vf vs : Value) : Prop where
  box : w.heap[db]? = some (.cells #[n64 d.ph, vf, vs, n64 d.mn, str d.tl, n64 d.ag] 29 (0, 0))
  rf : Row w 0 5 1 vf d.f.length (d.f.map byt)
  rs : Row w 0 5 1 vs d.sq.length (d.sq.map byt)
  ne : ∀ g, vf.ownBlock = some g → vs.ownBlock ≠ some g
def Di (w : World) (db : Nat) (d : Dc) (fp : List Nat) : Prop := ∃ vf vs, DcAt w db d vf vs ∧ fp = db :: (rbK vf ++ rbK vs)
abbrev dptr (db : Nat) : Value := .pointer (some ⟨db, 0, none⟩)
theorem DcAt.move {w w' : World} {db : Nat} {d : Dc} {vf vs : Value} (h : DcAt w db d vf vs) (hm : ∀ b ∈ db :: (rbK vf ++ rbK vs), w'.heap[b]? = w.heap[b]?) : DcAt w' db d vf vs :=
  ⟨(hm db (List.mem_cons_self ..)).trans h.box, h.rf.at_ fun k hk => hm k (by simp [rbK_mem hk]), h.rs.at_ fun k hk => hm k (by simp [rbK_mem hk]), h.ne⟩
theorem DcAt.lt {w : World} {db : Nat} {d : Dc} {vf vs : Value} (h : DcAt w db d vf vs) : ∀ b ∈ db :: (rbK vf ++ rbK vs), b < w.heap.size := by
  intro b hm
  rcases List.mem_cons.1 hm with e | e
  · rw [e]; exact (Array.getElem?_eq_some_iff.1 h.box).1
  · rcases List.mem_append.1 e with e | e
    · exact (h.rf.lt b (rbK_of e)).2
    · exact (h.rs.lt b (rbK_of e)).2
theorem Di.move {w w' : World} {db : Nat} {d : Dc} {fp : List Nat} (h : Di w db d fp) (hm : ∀ b ∈ fp, w'.heap[b]? = w.heap[b]?) : Di w' db d fp := by
  obtain ⟨vf, vs, h1, rfl⟩ := h
  exact ⟨vf, vs, h1.move hm, rfl⟩
theorem Di.lt {w : World} {db : Nat} {d : Dc} {fp : List Nat} (h : Di w db d fp) : ∀ b ∈ fp, b < w.heap.size := by
  obtain ⟨vf, vs, h1, rfl⟩ := h
  exact h1.lt
theorem Di.later {w w' : World} {db : Nat} {d : Dc} {fp : List Nat} (h : Di w db d fp) (hb : Below w.heap.size w w') : Di w' db d fp := h.move fun b hm => hb.block b (h.lt b hm)
theorem dc_cells {W : World} {b : Nat} {T : TypeId} {x0 x1 x2 x3 x4 x5 : Value} (h : W.heap[b]? = some (.cells #[x0, x1, x2, x3, x4, x5] T (0, 0))) :
    W.cell? ⟨b, 0, none⟩ = some x0 ∧ W.cell? ⟨b, 1, none⟩ = some x1 ∧ W.cell? ⟨b, 2, none⟩ = some x2 ∧ W.cell? ⟨b, 3, none⟩ = some x3 ∧ W.cell? ⟨b, 4, none⟩ = some x4 ∧ W.cell? ⟨b, 5, none⟩ = some x5 := by
  refine ⟨?_, ?_, ?_, ?_, ?_, ?_⟩ <;> (rw [cell_of_row W b _ _ _ (0, 0) h]; rfl)
theorem Pasting_calls {w : World} {db : Nat} {d : Dc} {fp : List Nat} (h : Di w db d fp) : Calls Tryd.prog 19 #[dptr db] w fun e w' => e = .returned (.bool (decide (d.ph = 4))) ∧ w = w' := by
  obtain ⟨vf, vs, h1, rfl⟩ := h
  obtain ⟨c0, _⟩ := dc_cells h1.box
  obtain ⟨p, hp⟩ : ∃ p, p = d.ph := ⟨_, rfl⟩
  rw [← hp] at c0
  have hf : decide (d.ph = 4) = ((p : Int) == 4) := by rw [← hp, Bool.eq_iff_iff, decide_eq_true_eq, beq_iff_eq]; omega
  have HF := Lib.hid hf
  clear hf hp h1
  go_enter Tryd.func19, Tryd.ntmps19
  go_wp2
  go_ret
  exact ⟨by rw [HF.out]; rfl, rfl⟩
theorem WaitsD_calls {w : World} {db : Nat} {d : Dc} {fp : List Nat} (h : Di w db d fp) : Calls Tryd.prog 18 #[dptr db] w fun e w' => e = .returned (.bool (waitsD d)) ∧ w = w' := by
  obtain ⟨vf, vs, h1, rfl⟩ := h
  obtain ⟨c0, c1, _⟩ := dc_cells h1.box
  obtain ⟨A, c, rfl, _⟩ := h1.rf.rd
  have q := Waits_calls db 1 A d.f.length c w c1
  have Q := Lib.hid q
  obtain ⟨p, hp⟩ : ∃ p, p = d.ph := ⟨_, rfl⟩
  rw [← hp] at c0
  by_cases h0 : p = 0
  · have hf : waitsD d = decide (0 < d.f.length) := by unfold waitsD; rw [← hp, h0]; simp
    have HF := Lib.hid hf
    subst h0
    clear hf hp h1 q
    go_enter Tryd.func18, Tryd.ntmps18
    go_wp2_with ((with_reducible refine Q.out.mono ?_); rintro e w' ⟨rfl, rfl⟩)
    go_ret
    exact ⟨by rw [HF.out]; rfl, rfl⟩
  · have hf : waitsD d = true := by unfold waitsD; rw [← hp]; simp [h0]
    have HF := Lib.hid hf
    have i0 : ((p : Int) != 0) = true := by simp; omega
    clear hf hp h1 q
    go_enter Tryd.func18, Tryd.ntmps18
    go_wp2
    go_ret
    exact ⟨by rw [HF.out]; rfl, rfl⟩
set_option maxRecDepth 100000 in
set_option maxHeartbeats 800000 in
theorem to_calls {w : World} {db : Nat} {d : Dc} {fp : List Nat} (h : Di w db d fp) (p : Nat) : Calls Tryd.prog 27 #[dptr db, n64 p] w fun e w' => ∃ fp', e = .returned (.slice none 0 0) ∧ Di w' db (d.to p) fp' ∧ Fr (fun k => k = db) w w' ∧ ∀ b ∈ fp', b ∈ fp := by
  obtain ⟨vf, vs, h1, rfl⟩ := h
  have hb := h1.box
  have hfz := frozen_of_row w db 0 _ _ hb
  obtain ⟨c0, c1, c2, c3, c4, c5⟩ := dc_cells hb
  have f0 := frozen_of_row w db 0 _ _ hb
  have f2 := frozen_of_row w db 2 _ _ hb
  have f3 := frozen_of_row w db 3 _ _ hb
  have f4 := frozen_of_row w db 4 _ _ hb
  have H1 := Lib.hid h1
  clear h1 hb hfz
  go_enter Tryd.func27, Tryd.ntmps27
  go_wp2
  go_ret
  have h0 := heap_setCell_same w db 0 _ _ (.int .i64 (p : Int)) H1.out.box
  have h2 := heap_setCell_same _ db 2 _ _ (.slice none 0 0) h0
  have h3 := heap_setCell_same _ db 3 _ _ (.int .i64 0) h2
  have h4 := heap_setCell_same _ db 4 _ _ (.string ⟨#[]⟩) h3
  have hF : Fr (fun k => k = db) w ((((w.setCell ⟨db, 0, none⟩ (.int .i64 (p : Int))).setCell ⟨db, 2, none⟩ (.slice none 0 0)).setCell ⟨db, 3, none⟩ (.int .i64 0)).setCell ⟨db, 4, none⟩ (.string ⟨#[]⟩)) :=
    (((Fr.setCell w ⟨db, 0, none⟩ _).trans (Fr.setCell _ ⟨db, 2, none⟩ _) (fun _ _ e => e)).trans (Fr.setCell _ ⟨db, 3, none⟩ _) (fun _ _ e => e)).trans (Fr.setCell _ ⟨db, 4, none⟩ _) (fun _ _ e => e)
  have hne : ∀ g, vf.ownBlock = some g → g ≠ db := fun g hg e => by
    rcases H1.out.rf.2 with ⟨e1, _⟩ | ⟨g', off, cap, cur, e1, _, hc, _⟩
    · rw [e1] at hg; simp [Value.ownBlock] at hg
    · rw [e1] at hg
      obtain rfl : g' = g := by simpa [Value.ownBlock] using hg
      rw [e, H1.out.box] at hc; cases hc
  refine ⟨db :: (rbK vf ++ rbK (.slice none 0 0)), rfl, ⟨vf, .slice none 0 0, ⟨h4, ?_, Row.nil _ _ _ _, fun g _ e => by simp [Value.ownBlock] at e⟩, rfl⟩, hF, fun b hb => ?_⟩
  · exact H1.out.rf.at_ fun g hg => hF.block g (H1.out.rf.lt g hg).2 (hne g hg)
  · rcases List.mem_cons.1 hb with e | e
    · rw [e]; exact List.mem_cons_self ..
    · rcases List.mem_append.1 e with e | e
      · exact List.mem_cons_of_mem _ (List.mem_append.2 (.inl e))
      · simp [rbK, Value.ownBlock] at e
end Go.Proofs.YticaeflnpgbngaaDoor
namespace Go.Proofs.YticaeflnpgbngaaDoor
set_option linter.unusedVariables false
set_option linter.unusedSimpArgs false
open Go.RowKit
theorem rdNewK0 (w : World) (xs : List Value) (t : TypeId) : Rd (w.alloc (.cells xs.toArray t)) (some ⟨w.heap.size, 0, none⟩) xs := by
  intro k u hk
  refine ⟨_, _, rfl, ?_⟩
  rw [cell_of_row _ w.heap.size _ _ _ (0, 0) (heap_alloc_new w (.cells xs.toArray t))]
  simpa using hk
theorem bl_back (s : ByteArray) : (⟨(bl s).toArray⟩ : ByteArray) = s := by unfold bl; cases s; simp
theorem enc_val (i : Int) : str (bl (Utf8.encode i)) = .string (Utf8.encode i) := congrArg Value.string (bl_back _)
theorem enc_cells (x : Nat) : keyCells ⟨1, enc x⟩ = [.int .i64 1, .string (Utf8.encode (x : Int))] := by
  unfold keyCells enc
  dsimp only
  rw [enc_val]
  rfl
theorem one2 (a b : Value) (ha : a.oneCell' = true) (hb : b.oneCell' = true) : ∀ u ∈ [a, b], u.oneCell' = true := fun u hu => by
  rcases List.mem_cons.1 hu with e | e
  · rw [e]; exact ha
  · rw [List.mem_singleton.1 e]; exact hb
theorem rdNew2 (w : World) (a b : Value) (t : TypeId) : Rd (w.alloc (.cells #[a, b] t)) (some ⟨w.heap.size, 0, none⟩) [a, b] := rdNewK0 w [a, b] t
set_option maxRecDepth 100000 in
set_option maxHeartbeats 1600000 in
theorem signs_calls (w : World) (A : Option Addr) (c : Nat) (l : List Nat) (hr : Rd w A (l.map i32)) (hl : l.length ≤ 1000000) (hv : ∀ r ∈ l, Utf8.valid (r : Int) = true) :
    Calls Tryd.prog 28 #[.slice A l.length c] w fun e w' => ∃ v, e = .returned v ∧ RowK w' w.heap.size v (l.map sgn) ∧ Below w.heap.size w w' := by
  have HR := Lib.hid hr
  have HV := Lib.hid hv
  clear hr hv
  go_enter Tryd.func28, Tryd.ntmps28
  go_wp2
  go_loopw [3, 8] (fun u3 u8 wr => ∃ (k : Nat) (A1 : Option Addr) (c1 : Nat), u8 = n64 k ∧ k ≤ l.length ∧ u3 = .slice A1 k c1 ∧ Hid (Row wr w.heap.size 46 2 (.slice A1 k c1) k (flatK ((l.take k).map sgn))) ∧ Hid (Below w.heap.size w wr)) (fun _ u8 _ => (l.length - intOf u8).toNat)
  case atStart => exact ⟨0, none, 0, rfl, Nat.zero_le _, rfl, Lib.hid (Row.nil _ _ _ _), Lib.hid (Below.refl _ _)⟩
  case round =>
    obtain ⟨k, A1, c1, rfl, hk, rfl, HK, HB⟩ := hrel
    by_cases hlt : k < l.length
    · obtain ⟨x, hx⟩ : ∃ x, l[k]? = some x := ⟨_, List.getElem?_eq_getElem hlt⟩
      obtain ⟨g, off, rfl, c0⟩ := (HR.out.later HB.out) k (i32 x) (by rw [List.getElem?_map, hx]; rfl)
      have q := Control_calls (x : Int) wr
      have b1 : (k : Int) < (l.length : Int) := by omega
      have HX := Lib.hid hx
      cases hc : ctl (x : Int) with
      | true =>
        rw [hc] at q
        have Q := Lib.hid q
        have hst : (l.take (k + 1)).map sgn = (l.take k).map sgn ++ [sgn x] := by rw [List.take_add_one, hx]; simp
        have hsg : keyCells (sgn x) = [.int .i64 0, .string ⟨#[]⟩] := by unfold sgn; rw [hc]; rfl
        have HST := Lib.hid (show flatK ((l.take k).map sgn) ++ [.int .i64 0, .string ⟨#[]⟩] = flatK ((l.take (k + 1)).map sgn) by rw [hst, flatK_app, ← hsg]; simp [flatK])
        have hone : ∀ u ∈ ([.int .i64 0, .string ⟨#[]⟩] : List Value), u.oneCell' = true := one2 _ _ rfl rfl
        have HONE := Lib.hid hone
        have hBs := HB.out.size
        clear q hx hst hsg hone hc
        go_wp2_with (first
          | ((with_reducible refine Q.out.mono ?_); rintro e w1 ⟨rfl, b1'⟩; have hs1 := b1'.size; have HK1 := Lib.hid (HK.out.below b1' (Nat.le_refl _)); have HB1 := Lib.hid (HB.out.trans (b1'.mono HB.out.size)); have HN := Lib.hid (rdNew2 w1 (.int .i64 0) (.string ⟨#[]⟩) 46))
          | (at_builtin; refine wpList_append_row _ rfl _ _ 38 rfl w.heap.size 46 2 24 _ Tryd.underlying38 Tryd.info_key rfl (by decide) (.slice A1 k c1) k _ rfl (HK1.out.alloc _) (some ⟨w1.heap.size, 0, none⟩) 1 1 [.int .i64 0, .string ⟨#[]⟩] rfl rfl HN.out HONE.out (by omega) (by simp only [maxLen]; omega) (by simp; omega) ?_; intro A2 c2 w2 hrow2 hg2 hb2; rw [HST.out] at hrow2; have B2 : Below w.heap.size w w2 := Below.grown (HB1.out.alloc HB1.out.size _) hg2 (by simp; omega) (fun j e => (HK1.out.lt j e).1)))
        go_roundw
        case rel => exact ⟨k + 1, A2, c2, by go_num, by omega, rfl, Lib.hid hrow2, Lib.hid B2⟩
        case measure => simp [intOf]; omega
      | false =>
        rw [hc] at q
        have Q := Lib.hid q
        have hst : (l.take (k + 1)).map sgn = (l.take k).map sgn ++ [sgn x] := by rw [List.take_add_one, hx]; simp
        have hsg : keyCells (sgn x) = [.int .i64 1, .string (Utf8.encode (x : Int))] := by unfold sgn; rw [hc]; exact enc_cells x
        have HST := Lib.hid (show flatK ((l.take k).map sgn) ++ [.int .i64 1, .string (Utf8.encode (x : Int))] = flatK ((l.take (k + 1)).map sgn) by rw [hst, flatK_app, ← hsg]; simp [flatK])
        have hone : ∀ u ∈ ([.int .i64 1, .string (Utf8.encode (x : Int))] : List Value), u.oneCell' = true := one2 _ _ rfl rfl
        have HONE := Lib.hid hone
        have hBs := HB.out.size
        clear q hx hst hsg hone hc
        go_wp2_with (first
          | ((with_reducible refine Q.out.mono ?_); rintro e w1 ⟨rfl, b1'⟩; have hs1 := b1'.size; have HK1 := Lib.hid (HK.out.below b1' (Nat.le_refl _)); have HB1 := Lib.hid (HB.out.trans (b1'.mono HB.out.size)); have HN := Lib.hid (rdNew2 w1 (.int .i64 1) (.string (Utf8.encode (x : Int))) 46))
          | (at_builtin; refine wpList_append_row _ rfl _ _ 38 rfl w.heap.size 46 2 24 _ Tryd.underlying38 Tryd.info_key rfl (by decide) (.slice A1 k c1) k _ rfl (HK1.out.alloc _) (some ⟨w1.heap.size, 0, none⟩) 1 1 [.int .i64 1, .string (Utf8.encode (x : Int))] rfl rfl HN.out HONE.out (by omega) (by simp only [maxLen]; omega) (by simp; omega) ?_; intro A2 c2 w2 hrow2 hg2 hb2; rw [HST.out] at hrow2; have B2 : Below w.heap.size w w2 := Below.grown (HB1.out.alloc HB1.out.size _) hg2 (by simp; omega) (fun j e => (HK1.out.lt j e).1)))
        go_roundw
        case rel => exact ⟨k + 1, A2, c2, by go_num, by omega, rfl, Lib.hid hrow2, Lib.hid B2⟩
        case measure => simp [intOf]; omega
    · obtain rfl : k = l.length := by omega
      go_wp2
      go_ret
      have h := HK.out
      rw [List.take_length] at h
      exact ⟨_, rfl, by unfold RowK; rw [List.length_map]; exact h, HB.out⟩
end Go.Proofs.YticaeflnpgbngaaDoor
namespace Go.Proofs.YticaeflnpgbngaaDoor
set_option linter.unusedVariables false
set_option linter.unusedSimpArgs false
open Go.RowKit Go.Maps
/-! Maps that a call makes: 'insert' is a store. -/
theorem wpList_insert_own {H : Type} {P : Program} (w : World) {ops : Array Oper} {rest : List Oper} {o : Oper} {a : Act} {Q : Exit → Act → World → Prop}
    (hg : o.guard = none) (m x v : Operand) (t : TypeId) (hop : o.op = Op.insert t m x v)
    (k e : TypeId) (K : Keyed P k) (ht : P.underlying t = some (.map k e)) (R : Value → Option (DataW H × List MemPlace)) (b n : Nat) (D : DataW H)
    (hm : a.eval m = .map (some b)) (hown : w.ownsMap P k R b n D) (hn : n < maxLen) (key val : Value) (kl : Lit) (hx : a.eval x = key) (hv : a.eval v = val) (hkey : keyOf P k key = some kl)
    (d : DataW H) (ps : List MemPlace) (hval : R val = some (d, ps))
    (hK : ∀ w', w'.ownsMap P k R b (n + 1) (D.put kl d) → w.grownBy w' (some b) → wpList P ops Q rest (a.put o.dst undef) w') :
    wpList P ops Q (o :: rest) a w := by
  refine wpList_plain hg fun K' hK' => ?_
  obtain ⟨w', hrun, r1, r2⟩ := hown.update K ht hn hkey hval
  unfold Oper.wp
  simp [execOp, hop, hm, hx, hv, hrun, Result.andThen]
  exact hK' _ _ (hK w' r1 r2)
theorem byteK : Keyed Tryd.prog 5 := int_keyed Tryd.underlying5
def letM : DataW Unit := (((((DataW.map []).put (.int .u8 98) (.lit (.int .i64 9))).put (.int .u8 102) (.lit (.int .i64 10))).put (.int .u8 100) (.lit (.int .i64 14))).put (.int .u8 121) (.lit (.int .i64 16))).put (.int .u8 127) (.lit (.int .i64 13))
set_option maxRecDepth 100000 in
theorem letters_calls (w : World) : Calls Tryd.prog 49 #[] w fun e w' => e = .returned (.map (some w.heap.size)) ∧ w'.ownsMap Tryd.prog 5 (plainElem Tryd.prog 3) w.heap.size 5 letM ∧ Below w.heap.size w w' := by
  have hmm := @run_makeMap Tryd.prog
  have hown : (w.alloc (.map #[] 0)).ownsMap Tryd.prog 5 (plainElem Tryd.prog 3) w.heap.size 0 (DataW.map [] : DataW Unit) := World.ownsMap_made _ _ _ _
  have HB : Hid (Below w.heap.size w (w.alloc (.map #[] 0))) := Lib.hid ((Below.refl _ _).alloc (Nat.le_refl _) _)
  go_enter Tryd.func49, Tryd.ntmps49
  go_wp2_with (refine wpList_insert_own (H := Unit) _ rfl _ _ _ 73 rfl 5 3 byteK Tryd.underlying73 _ w.heap.size _ _ rfl hown (by unfold maxLen; omega) _ _ _ rfl rfl (keyOf_int_mk Tryd.underlying5 (by decide)) _ [] (plainElem_int Tryd.underlying3 (by decide)) ?_; intro w1 hown hgr; have HB := Lib.hid (HB.out.grown hgr HB.out.size (fun j hj => by cases hj; exact Nat.le_refl _)))
  go_ret
  exact ⟨rfl, hown, HB.out⟩
def arrM : DataW Unit := ((((((DataW.map []).put (.int .u8 65) (.lit (.int .i64 19))).put (.int .u8 66) (.lit (.int .i64 20))).put (.int .u8 67) (.lit (.int .i64 6))).put (.int .u8 68) (.lit (.int .i64 5))).put (.int .u8 72) (.lit (.int .i64 7))).put (.int .u8 70) (.lit (.int .i64 8))
set_option maxRecDepth 100000 in
theorem arrows_calls (w : World) : Calls Tryd.prog 52 #[] w fun e w' => e = .returned (.map (some w.heap.size)) ∧ w'.ownsMap Tryd.prog 5 (plainElem Tryd.prog 3) w.heap.size 6 arrM ∧ Below w.heap.size w w' := by
  have hmm := @run_makeMap Tryd.prog
  have hown : (w.alloc (.map #[] 0)).ownsMap Tryd.prog 5 (plainElem Tryd.prog 3) w.heap.size 0 (DataW.map [] : DataW Unit) := World.ownsMap_made _ _ _ _
  have HB : Hid (Below w.heap.size w (w.alloc (.map #[] 0))) := Lib.hid ((Below.refl _ _).alloc (Nat.le_refl _) _)
  go_enter Tryd.func52, Tryd.ntmps52
  go_wp2_with (refine wpList_insert_own (H := Unit) _ rfl _ _ _ 73 rfl 5 3 byteK Tryd.underlying73 _ w.heap.size _ _ rfl hown (by unfold maxLen; omega) _ _ _ rfl rfl (keyOf_int_mk Tryd.underlying5 (by decide)) _ [] (plainElem_int Tryd.underlying3 (by decide)) ?_; intro w1 hown hgr; have HB := Lib.hid (HB.out.grown hgr HB.out.size (fun j hj => by cases hj; exact Nat.le_refl _)))
  go_ret
  exact ⟨rfl, hown, HB.out⟩
theorem strK : Keyed Tryd.prog 9 := string_keyed Tryd.underlying9
def tilM : DataW Unit := (((((DataW.map []).put (.string [49]) (.lit (.int .i64 7))).put (.string [55]) (.lit (.int .i64 7))).put (.string [52]) (.lit (.int .i64 8))).put (.string [56]) (.lit (.int .i64 8))).put (.string [51]) (.lit (.int .i64 4))
set_option maxRecDepth 100000 in
theorem tildes_calls (w : World) : Calls Tryd.prog 61 #[] w fun e w' => e = .returned (.map (some w.heap.size)) ∧ w'.ownsMap Tryd.prog 9 (plainElem Tryd.prog 3) w.heap.size 5 tilM ∧ Below w.heap.size w w' := by
  have hmm := @run_makeMap Tryd.prog
  have hown : (w.alloc (.map #[] 0)).ownsMap Tryd.prog 9 (plainElem Tryd.prog 3) w.heap.size 0 (DataW.map [] : DataW Unit) := World.ownsMap_made _ _ _ _
  have HB : Hid (Below w.heap.size w (w.alloc (.map #[] 0))) := Lib.hid ((Below.refl _ _).alloc (Nat.le_refl _) _)
  go_enter Tryd.func61, Tryd.ntmps61
  go_wp2_with (refine wpList_insert_own (H := Unit) _ rfl _ _ _ 84 rfl 9 3 strK Tryd.underlying84 _ w.heap.size _ _ rfl hown (by unfold maxLen; omega) _ _ _ rfl rfl (Go.WideMaps.keyOf_string_mk Tryd.underlying9 (by decide)) _ [] (plainElem_int Tryd.underlying3 (by decide)) ?_; intro w1 hown hgr; have HB := Lib.hid (HB.out.grown hgr HB.out.size (fun j hj => by cases hj; exact Nat.le_refl _)))
  go_ret
  exact ⟨rfl, hown, HB.out⟩
end Go.Proofs.YticaeflnpgbngaaDoor
namespace Go.Proofs.YticaeflnpgbngaaDoor
set_option linter.unusedVariables false
set_option linter.unusedSimpArgs false
open Go.RowKit Go.Maps
/-! Looking up. -/
theorem u8_ne {x y : UInt8} (h : x ≠ y) : (Lit.int .u8 (x.toNat : Int)) ≠ .int .u8 (y.toNat : Int) := fun e => by
  injection e with _ e
  exact h (UInt8.toNat_inj.1 (by omega))
theorem letM_at (x : UInt8) : letM.atKey (.int .u8 (x.toNat : Int)) (.lit (.int .i64 0)) = .lit (.int .i64 (letK x : Nat)) := by
  by_cases g1 : x = 98
  · subst g1; rfl
  by_cases g2 : x = 102
  · subst g2; rfl
  by_cases g3 : x = 100
  · subst g3; rfl
  by_cases g4 : x = 121
  · subst g4; rfl
  by_cases g5 : x = 127
  · subst g5; rfl
  unfold letK letM
  rw [if_neg g1, if_neg g2, if_neg g3, if_neg g4, if_neg g5, atKey_put_other (k := .int .u8 127) (u8_ne g5), atKey_put_other (k := .int .u8 121) (u8_ne g4), atKey_put_other (k := .int .u8 100) (u8_ne g3), atKey_put_other (k := .int .u8 102) (u8_ne g2), atKey_put_other (k := .int .u8 98) (u8_ne g1)]
  rfl
theorem arrM_at (x : UInt8) : arrM.atKey (.int .u8 (x.toNat : Int)) (.lit (.int .i64 0)) = .lit (.int .i64 (arrK x : Nat)) := by
  by_cases g1 : x = 65
  · subst g1; rfl
  by_cases g2 : x = 66
  · subst g2; rfl
  by_cases g3 : x = 67
  · subst g3; rfl
  by_cases g4 : x = 68
  · subst g4; rfl
  by_cases g5 : x = 72
  · subst g5; rfl
  by_cases g6 : x = 70
  · subst g6; rfl
  unfold arrK arrM
  rw [if_neg g1, if_neg g2, if_neg g3, if_neg g4, if_neg g5, if_neg g6, atKey_put_other (k := .int .u8 70) (u8_ne g6), atKey_put_other (k := .int .u8 72) (u8_ne g5), atKey_put_other (k := .int .u8 68) (u8_ne g4), atKey_put_other (k := .int .u8 67) (u8_ne g3), atKey_put_other (k := .int .u8 66) (u8_ne g2), atKey_put_other (k := .int .u8 65) (u8_ne g1)]
  rfl
theorem bs_ne {x y : Bs} (h : x ≠ y) : (Lit.string x) ≠ .string y := fun e => by
  injection e with e
  exact h e
theorem tilM_at (s : Bs) : tilM.atKey (.string s) (.lit (.int .i64 0)) = .lit (.int .i64 (tilK s : Nat)) := by
  by_cases g1 : s = [49]
  · subst g1; rfl
  by_cases g2 : s = [55]
  · subst g2; rfl
  by_cases g3 : s = [52]
  · subst g3; rfl
  by_cases g4 : s = [56]
  · subst g4; rfl
  by_cases g5 : s = [51]
  · subst g5; rfl
  unfold tilK tilM
  rw [if_neg (by rintro (e | e) <;> contradiction), if_neg (by rintro (e | e) <;> contradiction), if_neg g5, atKey_put_other (bs_ne g5), atKey_put_other (bs_ne g4), atKey_put_other (bs_ne g3), atKey_put_other (bs_ne g2), atKey_put_other (bs_ne g1)]
  rfl
def btwM : DataW Unit := ((DataW.map []).put (.int .u8 67) (.lit (.int .i64 10))).put (.int .u8 68) (.lit (.int .i64 9))
def wrdK (x : UInt8) : Nat := if x = 67 then 10 else if x = 68 then 9 else 0
theorem btwM_at (x : UInt8) : btwM.atKey (.int .u8 (x.toNat : Int)) (.lit (.int .i64 0)) = .lit (.int .i64 (wrdK x : Nat)) := by
  by_cases g1 : x = 67
  · subst g1; rfl
  by_cases g2 : x = 68
  · subst g2; rfl
  unfold wrdK btwM
  rw [if_neg g1, if_neg g2, atKey_put_other (k := .int .u8 68) (u8_ne g2), atKey_put_other (k := .int .u8 67) (u8_ne g1)]
  rfl
theorem lit_inj {a : Nat} {c : Int} (h : (DataW.lit (.int .i64 (a : Int)) : DataW Unit) = .lit (.int .i64 c)) : c = (a : Int) := by
  injection h with h; injection h with _ h; exact h.symm
theorem str_is (s : Bs) : str s = .string ⟨s.toArray⟩ := rfl
theorem toL (s : Bs) : (⟨s.toArray⟩ : ByteArray).data.toList = s := by simp
theorem zero_int (w : World) : (zeroValue 3).run Tryd.prog w = .ok (.int .i64 0) w := by kernel_rfl
theorem str_nil_neq {s : Bs} (h : s ≠ []) (p : Bs) : True := trivial
theorem wf_byte (x : UInt8) : (Lit.int .u8 (x.toNat : Int)).wf = true := by
  have := x.toNat_lt
  show (decide (IntKind.u8.min ≤ (x.toNat : Int)) && decide ((x.toNat : Int) ≤ IntKind.u8.max)) = true
  rw [Bool.and_eq_true, decide_eq_true_eq, decide_eq_true_eq]
  have h1 : IntKind.u8.min = 0 := rfl
  have h2 : IntKind.u8.max = 255 := rfl
  rw [h1, h2]; omega
set_option maxRecDepth 100000 in
theorem told_calls (s : Bs) (x : UInt8) (hs : s.length ≤ 1000000) (w : World) : Calls Tryd.prog 51 #[str s, byt x] w fun e w' => e = .returned (n64 (toldK s x)) ∧ Below w.heap.size w w' := by
  have hmm := @run_makeMap Tryd.prog
  have hsz : (⟨s.toArray⟩ : ByteArray).size ≤ maxLen := by show s.toArray.size ≤ _; simp [maxLen]; omega
  have hkey := Go.WideMaps.keyOf_string_mk Tryd.underlying9 hsz
  rw [toL] at hkey
  have HKEY := Lib.hid hkey
  have HX2 := Lib.hid (keyOf_int_mk Tryd.underlying5 (wf_byte x))
  clear hkey hsz
  by_cases h1 : x = 126
  · have HT := Lib.hid (show toldK s x = tilK s by unfold toldK; rw [if_pos h1])
    subst h1
    go_enter Tryd.func51, Tryd.ntmps51
    go_wp2_with fail
    refine (tildes_calls w).mono ?_
    rintro e w1 ⟨rfl, hown, hb⟩
    go_wp2_with (at_lookup; refine wpList_lookup_own_int _ rfl _ _ 84 rfl 9 3 .i64 strK Tryd.underlying84 Tryd.underlying3 (zero_int _) _ 5 tilM rfl hown _ _ rfl HKEY.out ?_; intro c hat hwc; obtain rfl := lit_inj ((tilM_at s).symm.trans hat); clear hat hwc)
    go_ret
    exact ⟨by rw [HT.out]; rfl, hb⟩
  · have i1 : ((x.toNat : Int) == 126) = false := by rw [beq_eq_false_iff_ne]; intro e; exact h1 (UInt8.toNat_inj.1 (by show x.toNat = 126; omega))
    by_cases h2 : s = []
    · have HT := Lib.hid (show toldK s x = arrK x by unfold toldK; rw [if_neg h1, if_pos h2])
      subst h2
      go_enter Tryd.func51, Tryd.ntmps51
      go_wp2_with fail
      refine (arrows_calls w).mono ?_
      rintro e w1 ⟨rfl, hown, hb⟩
      go_wp2_with (at_lookup; refine wpList_lookup_own_int _ rfl _ _ 73 rfl 5 3 .i64 byteK Tryd.underlying73 Tryd.underlying3 (zero_int _) _ 6 arrM rfl hown _ _ rfl HX2.out ?_; intro c hat hwc; obtain rfl := lit_inj ((arrM_at x).symm.trans hat); clear hat hwc)
      go_ret
      exact ⟨by rw [HT.out]; rfl, hb⟩
    · obtain ⟨sx, hsx⟩ : ∃ sx : ByteArray, sx = ⟨s.toArray⟩ := ⟨_, rfl⟩
      have e0 : str s = .string sx := by rw [hsx]
      rw [e0]
      have i2 := str_ne hsx h2
      have htl : sx.toList = s := by rw [hsx, ByteArray.toList_eq]
      by_cases h3 : s = [49, 59, 51]
      · have HT := Lib.hid (show toldK s x = wrdK x by unfold toldK wrdK; rw [if_neg h1, if_neg h2, if_neg (by simp [s13, h3])])
        have i3 : sx.toList = [49, 59, 51] := htl.trans h3
        clear h3 hsx h2 h1 htl
        have HOWN0 : Hid ((w.alloc (.map #[] 0)).ownsMap Tryd.prog 5 (plainElem Tryd.prog 3) w.heap.size 0 (DataW.map [] : DataW Unit)) := Lib.hid (World.ownsMap_made _ _ _ _)
        have HB0 : Hid (Below w.heap.size w (w.alloc (.map #[] 0))) := Lib.hid ((Below.refl _ _).alloc (Nat.le_refl _) _)
        go_enter Tryd.func51, Tryd.ntmps51
        go_wp2_with (first
          | (at_lookup; refine wpList_lookup_own_int _ rfl _ _ 73 rfl 5 3 .i64 byteK Tryd.underlying73 Tryd.underlying3 (zero_int _) _ 2 btwM rfl HOWN.out _ _ rfl HX2.out ?_; intro c hat hwc; obtain rfl := lit_inj ((btwM_at x).symm.trans hat); clear hat hwc)
          | (refine wpList_insert_own (H := Unit) _ rfl _ _ _ 73 rfl 5 3 byteK Tryd.underlying73 _ w.heap.size 0 _ rfl HOWN0.out (by unfold maxLen; omega) _ _ _ rfl rfl (keyOf_int_mk Tryd.underlying5 (by decide)) _ [] (plainElem_int Tryd.underlying3 (by decide)) ?_; intro w1 hown1 hgr1; have HB1 := Lib.hid (HB0.out.grown hgr1 HB0.out.size (fun j hj => by cases hj; exact Nat.le_refl _)); have HOWN1 := Lib.hid hown1; clear hown1 hgr1)
          | (refine wpList_insert_own (H := Unit) _ rfl _ _ _ 73 rfl 5 3 byteK Tryd.underlying73 _ w.heap.size 1 _ rfl HOWN1.out (by unfold maxLen; omega) _ _ _ rfl rfl (keyOf_int_mk Tryd.underlying5 (by decide)) _ [] (plainElem_int Tryd.underlying3 (by decide)) ?_; intro w2 hown2 hgr2; have HB := Lib.hid (HB1.out.grown hgr2 HB1.out.size (fun j hj => by cases hj; exact Nat.le_refl _)); have HOWN := Lib.hid hown2; clear hown2 hgr2))
        go_ret
        exact ⟨by rw [HT.out]; rfl, HB.out⟩
      by_cases h4 : s = [49, 59, 53]
      · have HT := Lib.hid (show toldK s x = wrdK x by unfold toldK wrdK; rw [if_neg h1, if_neg h2, if_neg (by simp [s13, h4])])
        have i3 : sx.toList = [49, 59, 53] := htl.trans h4
        clear h3 h4 hsx h2 h1 htl
        have HOWN0 : Hid ((w.alloc (.map #[] 0)).ownsMap Tryd.prog 5 (plainElem Tryd.prog 3) w.heap.size 0 (DataW.map [] : DataW Unit)) := Lib.hid (World.ownsMap_made _ _ _ _)
        have HB0 : Hid (Below w.heap.size w (w.alloc (.map #[] 0))) := Lib.hid ((Below.refl _ _).alloc (Nat.le_refl _) _)
        go_enter Tryd.func51, Tryd.ntmps51
        go_wp2_with (first
          | (at_lookup; refine wpList_lookup_own_int _ rfl _ _ 73 rfl 5 3 .i64 byteK Tryd.underlying73 Tryd.underlying3 (zero_int _) _ 2 btwM rfl HOWN.out _ _ rfl HX2.out ?_; intro c hat hwc; obtain rfl := lit_inj ((btwM_at x).symm.trans hat); clear hat hwc)
          | (refine wpList_insert_own (H := Unit) _ rfl _ _ _ 73 rfl 5 3 byteK Tryd.underlying73 _ w.heap.size 0 _ rfl HOWN0.out (by unfold maxLen; omega) _ _ _ rfl rfl (keyOf_int_mk Tryd.underlying5 (by decide)) _ [] (plainElem_int Tryd.underlying3 (by decide)) ?_; intro w1 hown1 hgr1; have HB1 := Lib.hid (HB0.out.grown hgr1 HB0.out.size (fun j hj => by cases hj; exact Nat.le_refl _)); have HOWN1 := Lib.hid hown1; clear hown1 hgr1)
          | (refine wpList_insert_own (H := Unit) _ rfl _ _ _ 73 rfl 5 3 byteK Tryd.underlying73 _ w.heap.size 1 _ rfl HOWN1.out (by unfold maxLen; omega) _ _ _ rfl rfl (keyOf_int_mk Tryd.underlying5 (by decide)) _ [] (plainElem_int Tryd.underlying3 (by decide)) ?_; intro w2 hown2 hgr2; have HB := Lib.hid (HB1.out.grown hgr2 HB1.out.size (fun j hj => by cases hj; exact Nat.le_refl _)); have HOWN := Lib.hid hown2; clear hown2 hgr2))
        go_ret
        exact ⟨by rw [HT.out]; rfl, HB.out⟩
      have HT := Lib.hid (show toldK s x = 0 by unfold toldK; rw [if_neg h1, if_neg h2, if_pos (by simp [s13, h3, h4])])
      have i3 : (sx.toList == [49, 59, 51]) = false := by rw [htl, beq_eq_false_iff_ne]; exact h3
      have i4 : (sx.toList == [49, 59, 53]) = false := by rw [htl, beq_eq_false_iff_ne]; exact h4
      have i5 : ¬ sx.toList = [49, 59, 51] := by rw [htl]; exact h3
      have i6 : ¬ sx.toList = [49, 59, 53] := by rw [htl]; exact h4
      clear h3 h4 hsx h2 h1 htl
      go_enter Tryd.func51, Tryd.ntmps51
      go_wp2
      go_ret
      exact ⟨by rw [HT.out]; rfl, Below.refl _ _⟩
end Go.Proofs.YticaeflnpgbngaaDoor
namespace Go.Proofs.YticaeflnpgbngaaDoor
set_option linter.unusedVariables false
set_option linter.unusedSimpArgs false
open Go.RowKit Go.Maps
/-! The keys of control bytes; first, anew, behind, short. -/
def ctlZ : Array Value := #[.int .i64 0, .int .i64 0, .int .i64 0, .int .i64 0, .int .i64 0, .int .i64 0, .int .i64 0, .int .i64 0, .int .i64 0, .int .i64 0, .int .i64 0, .int .i64 0, .int .i64 0, .int .i64 0, .int .i64 0, .int .i64 0, .int .i64 0, .int .i64 0, .int .i64 0, .int .i64 0, .int .i64 0, .int .i64 0, .int .i64 0, .int .i64 0, .int .i64 0, .int .i64 0, .int .i64 0, .int .i64 0, .int .i64 0, .int .i64 0, .int .i64 0, .int .i64 0]
def ctlC : Array Value := #[.int .i64 0, .int .i64 7, .int .i64 5, .int .i64 0, .int .i64 4, .int .i64 8, .int .i64 6, .int .i64 22, .int .i64 3, .int .i64 23, .int .i64 2, .int .i64 11, .int .i64 25, .int .i64 2, .int .i64 20, .int .i64 0, .int .i64 19, .int .i64 0, .int .i64 21, .int .i64 0, .int .i64 24, .int .i64 12, .int .i64 0, .int .i64 13, .int .i64 18, .int .i64 15, .int .i64 0, .int .i64 0, .int .i64 0, .int .i64 0, .int .i64 0, .int .i64 17]
set_option maxRecDepth 100000 in
theorem controls_calls (w : World) : Calls Tryd.prog 55 #[] w fun e w' => e = .returned (.agg ctlC) ∧ Below w.heap.size w w' := by
  go_enter Tryd.func55, Tryd.ntmps55
  go_wp2_with (first
    | (refine wpList_build (by rfl) 78 _ (by rfl) (by as_aux_lemma => kernel_rfl) ?_)
    | (refine wpList_store_row (by rfl) 78 _ _ (by rfl) w.heap.size ctlC (by rfl) (by as_aux_lemma => kernel_rfl) 78 ctlZ (heap_alloc_last w _) (by as_aux_lemma => kernel_rfl) (by as_aux_lemma => kernel_rfl) (by as_aux_lemma => kernel_rfl) ?_))
  have e : (w.alloc (.cells ctlZ 78)).setRow w.heap.size ctlC = w.alloc (.cells ctlC 78) := World.setRow_alloc_new w _ _ _
  unfold ctlZ at e
  rw [e]
  refine bodyPost_ret (v := .agg ctlC) (results_cell1 rfl (a := ⟨w.heap.size, 0, none⟩) rfl (run_loadVar_new w _ ctlC _ _ Tryd.underlying78 (by as_aux_lemma => kernel_rfl))) rfl ⟨rfl, (Below.refl _ w).alloc (Nat.le_refl _) _⟩
theorem ctl_index (x : UInt8) (h : x.toNat < 32) (w : World) : (Instr.index 78 (.agg ctlC) (byt x)).run Tryd.prog w = .ok (n64 (lowK x)) w := by
  have hall : ∀ n : Nat, n < 32 → (Instr.index 78 (.agg ctlC) (.int .u8 (n : Int))).run Tryd.prog w = .ok (n64 (lowT.getD n 0)) w := by
    intro n hn
    have : n = 0 ∨ n = 1 ∨ n = 2 ∨ n = 3 ∨ n = 4 ∨ n = 5 ∨ n = 6 ∨ n = 7 ∨ n = 8 ∨ n = 9 ∨ n = 10 ∨ n = 11 ∨ n = 12 ∨ n = 13 ∨ n = 14 ∨ n = 15 ∨ n = 16 ∨ n = 17 ∨ n = 18 ∨ n = 19 ∨ n = 20 ∨ n = 21 ∨ n = 22 ∨ n = 23 ∨ n = 24 ∨ n = 25 ∨ n = 26 ∨ n = 27 ∨ n = 28 ∨ n = 29 ∨ n = 30 ∨ n = 31 := by omega
    rcases this with rfl | rfl | rfl | rfl | rfl | rfl | rfl | rfl | rfl | rfl | rfl | rfl | rfl | rfl | rfl | rfl | rfl | rfl | rfl | rfl | rfl | rfl | rfl | rfl | rfl | rfl | rfl | rfl | rfl | rfl | rfl | rfl <;> (show _ = _; kernel_rfl)
  exact hall _ h
end Go.Proofs.YticaeflnpgbngaaDoor
namespace Go.Proofs.YticaeflnpgbngaaDoor
set_option linter.unusedVariables false
set_option linter.unusedSimpArgs false
open Go.RowKit Go.Maps
/-! How a decoder moves. -/
theorem Row.typ {w : World} {B : Nat} {e : TypeId} {sz : Nat} {v : Value} {n : Nat} {xs : List Value} (h : Row w B e sz v n xs) {g : Nat} (hg : v.ownBlock = some g) : ∃ cs, w.heap[g]? = some (.cells cs e (0, 0)) := by
  rcases h.2 with ⟨rfl, _⟩ | ⟨g', off, cap, cur, rfl, hb, hc, _⟩
  · simp [Value.ownBlock] at hg
  · simp [Value.ownBlock] at hg
    subst hg
    exact ⟨_, hc⟩
theorem Row.off {w : World} {B B' : Nat} {e e' : TypeId} {sz sz' : Nat} {v v' : Value} {n n' : Nat} {xs xs' : List Value} (h : Row w B e sz v n xs) (h' : Row w B' e' sz' v' n' xs') (he : e ≠ e') {g : Nat} (hg : v.ownBlock = some g) : v'.ownBlock ≠ some g := fun hg' => by
  obtain ⟨c, h1⟩ := h.typ hg
  obtain ⟨c', h2⟩ := h'.typ hg'
  rw [h1] at h2
  injection h2 with h2; injection h2 with _ h2
  exact he h2
theorem DcAt.nf {w : World} {db : Nat} {d : Dc} {vf vs : Value} (h : DcAt w db d vf vs) {g : Nat} (hg : vf.ownBlock = some g) : g ≠ db := fun e => by
  obtain ⟨c, h1⟩ := h.rf.typ hg
  rw [e, h.box] at h1
  injection h1 with h1; injection h1 with _ h1
  exact absurd h1 (by decide)
theorem DcAt.ns {w : World} {db : Nat} {d : Dc} {vf vs : Value} (h : DcAt w db d vf vs) {g : Nat} (hg : vs.ownBlock = some g) : g ≠ db := fun e => by
  obtain ⟨c, h1⟩ := h.rs.typ hg
  rw [e, h.box] at h1
  injection h1 with h1; injection h1 with _ h1
  exact absurd h1 (by decide)
theorem Di.off {w : World} {db : Nat} {d : Dc} {fp : List Nat} (h : Di w db d fp) {B : Nat} {v : Value} {n : Nat} {xs : List Value} {sz : Nat} {e : TypeId} (hr : Row w B e sz v n xs) (h1 : e ≠ 29) (h2 : e ≠ 5) {g : Nat} (hg : v.ownBlock = some g) : g ∉ fp := by
  obtain ⟨vf, vs, h0, rfl⟩ := h
  obtain ⟨c, hc⟩ := hr.typ hg
  intro hm
  rcases List.mem_cons.1 hm with e | e
  · rw [e, h0.box] at hc
    injection hc with hc; injection hc with _ hc
    exact h1 hc.symm
  · rcases List.mem_append.1 e with e | e
    · exact hr.off h0.rf h2 hg (rbK_of e)
    · exact hr.off h0.rs h2 hg (rbK_of e)
def Mv (w : World) (db : Nat) (fp : List Nat) (d' : Dc) (w' : World) : Prop := ∃ fp', Di w' db d' fp' ∧ Fr (fun k => k ∈ fp) w w' ∧ ∀ b ∈ fp', b ∈ fp ∨ w.heap.size ≤ b
theorem Mv.refl {w : World} {db : Nat} {d : Dc} {fp : List Nat} (h : Di w db d fp) : Mv w db fp d w := ⟨fp, h, Fr.refl _ _, fun _ hb => .inl hb⟩
theorem Mv.size {w w' : World} {db : Nat} {d : Dc} {fp : List Nat} (h : Mv w db fp d w') : w.heap.size ≤ w'.heap.size := by obtain ⟨_, _, hf, _⟩ := h; exact hf.size
theorem Mv.below {w w1 w2 : World} {db : Nat} {d : Dc} {fp : List Nat} (h : Mv w db fp d w1) (hb : Below w1.heap.size w1 w2) : Mv w db fp d w2 := by
  obtain ⟨fp', hd, hf, hm⟩ := h
  exact ⟨fp', hd.later hb, hf.trans (Fr.of_fresh (S := fun _ => False) hb) (fun _ _ e => e.elim), hm⟩
theorem Mv.trans {w w1 w2 : World} {db : Nat} {d d2 : Dc} {fp : List Nat} (h : Mv w db fp d w1) (k : ∀ fp', Di w1 db d fp' → Mv w1 db fp' d2 w2) : Mv w db fp d2 w2 := by
  obtain ⟨fp', hd, hf, hm⟩ := h
  obtain ⟨fp2, hd2, hf2, hm2⟩ := k fp' hd
  refine ⟨fp2, hd2, hf.trans hf2 (fun i hi e => (hm i e).resolve_right (by omega)), fun b hb => ?_⟩
  rcases hm2 b hb with e | e
  · exact hm b e
  · exact .inr (Nat.le_trans hf.size e)
theorem Mv.grown {w w1 w2 : World} {db : Nat} {d : Dc} {fp : List Nat} (h : Mv w db fp d w1) {B : Nat} {v : Value} {l : List KeyT} (hr : RowK w1 B v l) (hB : w.heap.size ≤ B) (hg : w1.grownBy w2 v.ownBlock) : Mv w db fp d w2 := by
  obtain ⟨fp', hd, hf, hm⟩ := h
  refine ⟨fp', hd.move fun b hb => hg.block b (hd.lt b hb) fun e => hd.off hr (by decide) (by decide) e.symm hb, ?_, hm⟩
  exact hf.trans (Fr.of_grown hg) fun i hi e => absurd (hr.lt i e).1 (by omega)
/-- What a call tells, and how it leaves the decoder. -/
def TellsK (w : World) (db : Nat) (fp : List Nat) (o : Out) (e : Ending) (w' : World) : Prop := ∃ v, e = .returned v ∧ RowK w' w.heap.size v o.1 ∧ Mv w db fp o.2 w'
theorem fPut_calls {w : World} {db : Nat} {d : Dc} {fp : List Nat} (h : Di w db d fp) (x : UInt8) (hl : d.f.length ≤ 1000000) : Calls Tryd.prog 54 #[.pointer (some ⟨db, 1, none⟩), byt x] w fun e w' => ∃ r, e = .returned r ∧
    Row w' w.heap.size 21 1 r (drain (d.f ++ [x])).1.length ((drain (d.f ++ [x])).1.map i32) ∧ Mv w db fp { d with f := (drain (d.f ++ [x])).2 } w' := by
  obtain ⟨vf, vs, h1, rfl⟩ := h
  refine (Put_calls db 1 _ _ vf d.f x 0 w h1.box rfl h1.rf (fun e => h1.nf e rfl) (Nat.zero_le _) (by omega)).mono ?_
  rintro e w' ⟨r, v', rfl, hr, hbox, hrf, hfr, hown⟩
  have hs : ∀ k, vs.ownBlock = some k → w'.heap[k]? = w.heap[k]? := fun k hk => hfr.block k (h1.rs.lt k hk).2 (by
    rintro (e | e)
    · exact h1.ns hk e
    · exact h1.ne k e hk)
  refine ⟨r, rfl, hr, db :: (rbK v' ++ rbK vs), ⟨v', vs, ⟨hbox, hrf, h1.rs.at_ hs, fun g hg hg2 => ?_⟩, rfl⟩, hfr.mono ?_, ?_⟩
  · rcases (hown g hg).1 with e | e
    · exact h1.ne g e hg2
    · exact absurd (h1.rs.lt g hg2).2 (by omega)
  · rintro i _ (e | e)
    · rw [e]; exact List.mem_cons_self ..
    · exact List.mem_cons_of_mem _ (List.mem_append.2 (.inl (rbK_mem e)))
  · intro b hb
    rcases List.mem_cons.1 hb with e | e
    · rw [e]; exact .inl (List.mem_cons_self ..)
    · rcases List.mem_append.1 e with e | e
      · rcases (hown b (rbK_of e)).1 with e | e
        · exact .inl (List.mem_cons_of_mem _ (List.mem_append.2 (.inl (rbK_mem e))))
        · exact .inr e
      · exact .inl (List.mem_cons_of_mem _ (List.mem_append.2 (.inr e)))
theorem fFlush_calls {w : World} {db : Nat} {d : Dc} {fp : List Nat} (h : Di w db d fp) (hl : d.f.length ≤ 1000000) : Calls Tryd.prog 29 #[.pointer (some ⟨db, 1, none⟩)] w fun e w' => ∃ r, e = .returned r ∧
    Row w' w.heap.size 21 1 r (runes d.f).length ((runes d.f).map i32) ∧ Mv w db fp { d with f := [] } w' := by
  obtain ⟨vf, vs, h1, rfl⟩ := h
  obtain ⟨A, c, hv, _, _, hrd, _⟩ := h1.rf.rd
  have hb := h1.box
  rw [hv] at hb
  refine (Flush_calls db 1 _ _ A c d.f w hb rfl hrd (by omega)).mono ?_
  rintro e w' ⟨r, rfl, hr, hbox, hfr⟩
  have hs : ∀ k, vs.ownBlock = some k → w'.heap[k]? = w.heap[k]? := fun k hk => hfr.block k (h1.rs.lt k hk).2 (h1.ns hk)
  refine ⟨r, rfl, hr, db :: (rbK (.slice none 0 0) ++ rbK vs), ⟨_, vs, ⟨hbox, Row.nil _ _ _ _, h1.rs.at_ hs, fun g hg => by simp [Value.ownBlock] at hg⟩, rfl⟩, hfr.mono ?_, ?_⟩
  · rintro i _ rfl; exact List.mem_cons_self ..
  · intro b hb
    rcases List.mem_cons.1 hb with e | e
    · rw [e]; exact .inl (List.mem_cons_self ..)
    · rcases List.mem_append.1 e with e | e
      · simp [rbK, Value.ownBlock] at e
      · exact .inl (List.mem_cons_of_mem _ (List.mem_append.2 (.inr e)))
theorem toK_calls {w : World} {db : Nat} {d : Dc} {fp : List Nat} (h : Di w db d fp) (p : Nat) : Calls Tryd.prog 27 #[dptr db, n64 p] w fun e w' => e = .returned (.slice none 0 0) ∧ Mv w db fp (d.to p) w' := by
  have hdb : db ∈ fp := by obtain ⟨_, _, _, rfl⟩ := h; exact List.mem_cons_self ..
  refine (to_calls h p).mono ?_
  rintro e w' ⟨fp', rfl, hd, hf, hm⟩
  exact ⟨rfl, fp', hd, hf.mono fun i _ e => by rw [e]; exact hdb, fun b hb => .inl (hm b hb)⟩
end Go.Proofs.YticaeflnpgbngaaDoor
namespace Go.Proofs.YticaeflnpgbngaaDoor
set_option linter.unusedVariables false
set_option linter.unusedSimpArgs false
open Go.RowKit Go.Maps
/-! first, anew, behind, short. -/
theorem signsR_calls {w : World} {B : Nat} {r : Value} {l : List Nat} (hr : Row w B 21 1 r l.length (l.map i32)) (hl : l.length ≤ 1000000) (hv : ∀ r ∈ l, Utf8.valid (r : Int) = true) :
    Calls Tryd.prog 28 #[r] w fun e w' => ∃ v, e = .returned v ∧ RowK w' w.heap.size v (l.map sgn) ∧ Below w.heap.size w w' := by
  obtain ⟨A, c, rfl, _, _, hrd, _⟩ := hr.rd
  exact signs_calls w A c l hrd hl hv
theorem Mv.then {w w1 w2 : World} {db : Nat} {d d2 : Dc} {fp fp' : List Nat} (hd : Di w1 db d fp') (hf : Fr (fun k => k ∈ fp) w w1) (hm : ∀ b ∈ fp', b ∈ fp ∨ w.heap.size ≤ b) (k : Mv w1 db fp' d2 w2) : Mv w db fp d2 w2 := by
  obtain ⟨fp2, hd2, hf2, hm2⟩ := k
  refine ⟨fp2, hd2, hf.trans hf2 (fun i hi e => (hm i e).resolve_right (by omega)), fun b hb => ?_⟩
  rcases hm2 b hb with e | e
  · exact hm b e
  · exact .inr (Nat.le_trans hf.size e)
theorem Mv.row {w w' : World} {db : Nat} {d d2 : Dc} {fp : List Nat} (hd : Di w db d fp) (h : Mv w db fp d2 w') {B : Nat} {v : Value} {l : List KeyT} (hr : RowK w B v l) : RowK w' B v l := by
  obtain ⟨_, _, hf, _⟩ := h
  exact hr.fr hf fun k hk => hd.off hr (by decide) (by decide) hk
theorem toM_calls {w w2 : World} {db : Nat} {d : Dc} {fp : List Nat} (h : Mv w db fp d w2) (p : Nat) : Calls Tryd.prog 27 #[dptr db, n64 p] w2 fun e w' => e = .returned (.slice none 0 0) ∧ Mv w db fp (d.to p) w' ∧ ∀ B v l, RowK w2 B v l → RowK w' B v l := by
  obtain ⟨fp', hd, hf, hm⟩ := h
  refine (toK_calls hd p).mono ?_
  rintro e w' ⟨rfl, hk⟩
  exact ⟨rfl, Mv.then hd hf hm hk, fun B v l hr => Mv.row hd hk hr⟩
theorem flatK1 (q : KeyT) : flatK [q] = keyCells q := by simp [flatK]
theorem rowK_snoc {w : World} {B : Nat} {A : Option Addr} {c n : Nat} {l : List KeyT} (q : KeyT) (h : Row w B 46 2 (.slice A (l.length + 1) c) (l.length + 1) (flatK l ++ keyCells q)) (hn : l.length = n) : RowK w B (.slice A (n + 1) c) (l ++ [q]) := by
  subst hn
  unfold RowK
  rw [List.length_append, List.length_singleton, flatK_app, flatK1]
  exact h
theorem sig_walk {x : UInt8} (h : sig x) : 128 ≤ x.toNat ∨ (¬ 128 ≤ x.toNat ∧ 32 ≤ x.toNat ∧ x.toNat < 127) := by unfold sig at h; omega
set_option maxRecDepth 100000 in
set_option maxHeartbeats 1600000 in
theorem kFirst_calls {w : World} {db : Nat} {d : Dc} {fp : List Nat} (h : Di w db d fp) (x : UInt8) (hl : d.f.length ≤ 1000) : Calls Tryd.prog 36 #[dptr db, byt x] w (TellsK w db fp (firstD d x)) := by
  by_cases hs : sig x
  · have hF : firstD d x = ((drain (d.f ++ [x])).1.map sgn, { d with f := (drain (d.f ++ [x])).2 }) := by unfold firstD; rw [if_pos hs]
    rw [hF]
    have q := fPut_calls h x (by omega)
    have hdl := (drain_len (d.f ++ [x])).1
    rw [List.length_append, List.length_singleton] at hdl
    have Q := Lib.hid q
    have HV := Lib.hid (drain_val (d.f ++ [x]))
    obtain ⟨L, hL⟩ : ∃ L, L = (drain (d.f ++ [x])).1 := ⟨_, rfl⟩
    obtain ⟨D, hD⟩ : ∃ D : Dc, D = { d with f := (drain (d.f ++ [x])).2 } := ⟨_, rfl⟩
    rw [← hL, ← hD] at Q
    rw [← hL] at HV hdl
    rw [← hL, ← hD]
    clear q hF hL hD h
    have key : ∀ (w1 : World) (r : Value), Row w1 w.heap.size 21 1 r L.length (L.map i32) → Mv w db fp D w1 → Calls Tryd.prog 28 #[r] w1 fun e w' => ∃ v, e = .returned v ∧ RowK w' w.heap.size v (L.map sgn) ∧ Mv w db fp D w' := fun w1 r h1 h2 =>
      (signsR_calls h1 (by omega) HV.out).mono fun e w' ⟨v, he, h3, h4⟩ => ⟨v, he, h3.mono h2.size, h2.below h4⟩
    rcases sig_walk hs with h1 | ⟨h1, h2, h3⟩
    · clear hs HV
      go_enter Tryd.func36, Tryd.ntmps36
      go_wp2_with (first | ((with_reducible refine Q.out.mono ?_); rintro e w1 ⟨r, rfl, hr, hm⟩; have KEY := key w1 r hr hm) | ((with_reducible refine KEY.mono ?_); rintro e w2 ⟨v, rfl, hv, hm2⟩))
      go_ret
      exact ⟨v, rfl, hv, hm2⟩
    · clear hs HV
      go_enter Tryd.func36, Tryd.ntmps36
      go_wp2_with (first | ((with_reducible refine Q.out.mono ?_); rintro e w1 ⟨r, rfl, hr, hm⟩; have KEY := key w1 r hr hm) | ((with_reducible refine KEY.mono ?_); rintro e w2 ⟨v, rfl, hv, hm2⟩))
      go_ret
      exact ⟨v, rfl, hv, hm2⟩
  · have q := fFlush_calls h (by omega)
    have hdl := runes_length d.f
    have Q := Lib.hid q
    have HV := Lib.hid (runes_val d.f)
    obtain ⟨L, hL⟩ : ∃ L, L = runes d.f := ⟨_, rfl⟩
    obtain ⟨D, hD⟩ : ∃ D : Dc, D = { d with f := [] } := ⟨_, rfl⟩
    rw [← hL, ← hD] at Q
    rw [← hL] at HV hdl
    have h128 : x.toNat < 128 := by
      rcases nsig_lt hs with e | e
      · omega
      · rw [e]; decide
    have h1 : ¬ 128 ≤ x.toNat := by omega
    have key : ∀ (w1 : World) (r : Value), Row w1 w.heap.size 21 1 r L.length (L.map i32) → Mv w db fp D w1 → Calls Tryd.prog 28 #[r] w1 fun e w' => ∃ v, e = .returned v ∧ RowK w' w.heap.size v (L.map sgn) ∧ Mv w db fp D w' := fun w1 r h1 h2 =>
      (signsR_calls h1 (by omega) HV.out).mono fun e w' ⟨v, he, h3, h4⟩ => ⟨v, he, h3.mono h2.size, h2.below h4⟩
    have hfd : firstD d x = if x = 27 then (L.map sgn, D.to 1) else if x = 127 then (L.map sgn ++ [kb 3], D) else (L.map sgn ++ [kb (lowK x)], D) := by
      unfold firstD; rw [if_neg hs, ← hL, ← hD]
    rw [hfd]
    clear hfd hL hD q h
    by_cases h27 : x = 27
    · rw [if_pos h27]
      subst h27
      clear hs HV h1 h128
      go_enter Tryd.func36, Tryd.ntmps36
      go_wp2_with (first
        | ((with_reducible refine Q.out.mono ?_); rintro e w1 ⟨r, rfl, hr, hm⟩; have KEY := key w1 r hr hm)
        | ((with_reducible refine KEY.mono ?_); rintro e w2 ⟨v, rfl, hv, hm2⟩)
        | (refine (toM_calls hm2 1).mono ?_; rintro e w3 ⟨rfl, hm3, hk3⟩; have hv3 := hk3 _ _ _ hv; have hs3 := hm3.size)
        | (at_builtin; refine wpList_append_row _ rfl _ _ 38 rfl w.heap.size 46 2 24 _ Tryd.underlying38 Tryd.info_key rfl (by decide) v _ _ rfl hv3 none 0 0 [] rfl rfl (Rd.nil _ _) (by simp) (by simp; omega) (by simp [maxLen]; omega) (by omega) ?_; intro A4 c4 w4 hrow4 hg4 hb4))
      go_ret
      exact ⟨_, rfl, by simpa [RowK] using hrow4, hm3.grown hv3 (Nat.le_refl _) hg4⟩
    rw [if_neg h27]
    have i27 : ((x.toNat : Int) == 27) = false := by rw [beq_eq_false_iff_ne]; intro e; exact h27 (UInt8.toNat_inj.1 (by show x.toNat = 27; omega))
    by_cases h127 : x = 127
    · rw [if_pos h127]
      subst h127
      clear hs HV h1 h128 h27 i27
      go_enter Tryd.func36, Tryd.ntmps36
      go_wp2_with (first
        | ((with_reducible refine Q.out.mono ?_); rintro e w1 ⟨r, rfl, hr, hm⟩; have KEY := key w1 r hr hm)
        | ((with_reducible refine KEY.mono ?_); rintro e w2 ⟨v, rfl, hv, hm2⟩; have hs2 := hm2.size; have HN := Lib.hid (rdNew2 w2 (.int .i64 3) (.string ⟨#[]⟩) 46); have HM3 := Lib.hid (hm2.below ((Below.refl w2.heap.size w2).alloc (Nat.le_refl _) (.cells #[.int .i64 3, .string ⟨#[]⟩] 46))))
        | (at_builtin; refine wpList_append_row _ rfl _ _ 38 rfl w.heap.size 46 2 24 _ Tryd.underlying38 Tryd.info_key rfl (by decide) v _ _ rfl (hv.alloc _) (some ⟨w2.heap.size, 0, none⟩) 1 1 [.int .i64 3, .string ⟨#[]⟩] rfl rfl HN.out (one2 _ _ rfl rfl) (by simp; omega) (by simp [maxLen]; omega) (by simp; omega) ?_; intro A4 c4 w4 hrow4 hg4 hb4))
      go_ret
      exact ⟨_, rfl, rowK_snoc (kb 3) hrow4 (by simp), HM3.out.grown (hv.alloc _) (Nat.le_refl _) hg4⟩
    rw [if_neg h127]
    have i127 : ((x.toNat : Int) == 127) = false := by rw [beq_eq_false_iff_ne]; intro e; exact h127 (UInt8.toNat_inj.1 (by show x.toNat = 127; omega))
    have hx32 : x.toNat < 32 := (nsig_lt hs).resolve_right h127
    have h2 : ¬ 32 ≤ x.toNat := by omega
    have hix := ctl_index x hx32
    clear hs HV h128 h27 h127 hx32
    obtain ⟨y, hy⟩ : ∃ y, y = lowK x := ⟨_, rfl⟩
    rw [← hy] at hix ⊢
    clear hy
    go_enter Tryd.func36, Tryd.ntmps36
    go_wp2_with (first
      | ((with_reducible refine Q.out.mono ?_); rintro e w1 ⟨r, rfl, hr, hm⟩; have KEY := key w1 r hr hm)
      | ((with_reducible refine KEY.mono ?_); rintro e w2 ⟨v, rfl, hv, hm2⟩)
      | (refine (controls_calls w2).mono ?_; rintro e w3 ⟨rfl, hb3⟩; have hv3 := Row.below hv hb3 (Nat.le_refl _); have hm3 := hm2.below hb3; have hs3 := hm3.size; have HN := Lib.hid (rdNew2 w3 (n64 y) (.string ⟨#[]⟩) 46); have HM3 := Lib.hid (hm3.below ((Below.refl w3.heap.size w3).alloc (Nat.le_refl _) (.cells #[n64 y, .string ⟨#[]⟩] 46))))
      | (at_builtin; refine wpList_append_row _ rfl _ _ 38 rfl w.heap.size 46 2 24 _ Tryd.underlying38 Tryd.info_key rfl (by decide) v _ _ rfl (hv3.alloc _) (some ⟨w3.heap.size, 0, none⟩) 1 1 [n64 y, .string ⟨#[]⟩] rfl rfl HN.out (one2 _ _ rfl rfl) (by simp; omega) (by simp [maxLen]; omega) (by simp; omega) ?_; intro A4 c4 w4 hrow4 hg4 hb4))
    go_ret
    exact ⟨_, rfl, rowK_snoc (kb y) hrow4 (by simp), HM3.out.grown (hv3.alloc _) (Nat.le_refl _) hg4⟩
end Go.Proofs.YticaeflnpgbngaaDoor
namespace Go.Proofs.YticaeflnpgbngaaDoor
set_option linter.unusedVariables false
set_option linter.unusedSimpArgs false
open Go.RowKit Go.Maps
/-! anew, behind, short. -/
theorem firstD_len (d : Dc) (x : UInt8) : (firstD d x).1.length ≤ d.f.length + 1 := by
  have h1 := (drain_len (d.f ++ [x])).1
  have h2 := runes_length d.f
  rw [List.length_append, List.length_singleton] at h1
  unfold firstD
  split
  · simpa using h1
  · split
    · simp; omega
    · split <;> (simp; omega)
theorem one_row (w : World) (B : Nat) (k : Nat) (hB : B ≤ w.heap.size) : RowK (w.alloc (.cells #[.int .i64 (k : Int), .string ⟨#[]⟩] 46)) B (.slice (some ⟨w.heap.size, 0, none⟩) 1 1) [kb k] := by
  have := Row.new w #[.int .i64 (k : Int), .string ⟨#[]⟩] B 46 2 1 hB (by decide) rfl
  simpa [RowK, flatK, keyCells, kb] using this
theorem Mv.alloc {w w' : World} {db : Nat} {d : Dc} {fp : List Nat} (h : Mv w db fp d w') (o : Obj) : Mv w db fp d (w'.alloc o) := h.below ((Below.refl _ _).alloc (Nat.le_refl _) o)
theorem nil_tells {w w' : World} {db : Nat} {d : Dc} {fp : List Nat} (h : Mv w db fp d w') : TellsK w db fp ([], d) (.returned (.slice none 0 0)) w' := ⟨_, rfl, Row.nil _ _ _ _, h⟩
theorem keyCells_one (l : List KeyT) : ∀ u ∈ flatK l, u.oneCell' = true := by
  induction l with
  | nil => simp [flatK]
  | cons q l ih =>
    intro u hu
    rw [show flatK (q :: l) = keyCells q ++ flatK l by simp [flatK]] at hu
    rcases List.mem_append.1 hu with e | e
    · exact one2 _ _ rfl rfl u e
    · exact ih u e
theorem rowK_app {w : World} {B : Nat} {A : Option Addr} {c n m : Nat} {l l2 : List KeyT} (h : Row w B 46 2 (.slice A (n + m) c) (n + m) (flatK l ++ flatK l2)) (hn : l.length = n) (hm : l2.length = m) : RowK w B (.slice A (n + m) c) (l ++ l2) := by
  subst hn; subst hm
  unfold RowK
  rw [List.length_append, flatK_app]
  exact h
set_option maxRecDepth 100000 in
set_option maxHeartbeats 1600000 in
theorem kAnew_calls {w : World} {db : Nat} {d : Dc} {fp : List Nat} (h : Di w db d fp) (k : Nat) (x : UInt8) (hl : d.f.length ≤ 1000) : Calls Tryd.prog 48 #[dptr db, n64 k, byt x] w (TellsK w db fp (anewD d k x)) := by
  have T := Lib.hid (toM_calls (Mv.refl h) 0)
  have hle := firstD_len (d.to 0) x
  have hlf : (d.to 0).f.length ≤ 1000 := hl
  have HA := Lib.hid (show anewD d k x = ([kb k] ++ (firstD (d.to 0) x).1, (firstD (d.to 0) x).2) from rfl)
  have F : ∀ (w1 : World) (fp' : List Nat), Di w1 db (d.to 0) fp' → Calls Tryd.prog 36 #[dptr db, byt x] w1 (TellsK w1 db fp' (firstD (d.to 0) x)) := fun w1 fp' h1 => kFirst_calls h1 x hl
  obtain ⟨D, hD⟩ : ∃ D, D = d.to 0 := ⟨_, rfl⟩
  rw [← hD] at T hle hlf HA F
  clear hD h hl
  generalize ho : firstD D x = o at HA F hle
  obtain ⟨L, D2⟩ := o
  dsimp only at HA hle
  clear ho
  go_enter Tryd.func48, Tryd.ntmps48
  go_wp2_with (first
    | ((go_at_call 27; refine T.out.mono ?_); rintro e w1 ⟨rfl, hm1, _⟩; obtain ⟨fp1, hd1, hf1, hs1⟩ := hm1)
    | (refine (keyone_calls (k : Int) w1).mono ?_; rintro e w2 ⟨rfl, rfl⟩; have hd2 := hd1.later ((Below.refl w1.heap.size w1).alloc (Nat.le_refl _) (.cells #[.int .i64 (k : Int), .string ⟨#[]⟩] 46)); have hr2 := one_row w1 w.heap.size k hf1.size; have F2 := F _ _ hd2)
    | ((with_reducible refine F2.mono ?_); rintro e w3 ⟨v, rfl, hv, hm3⟩; have hr3 := Mv.row hd2 hm3 hr2; have hs3 := hm3.size; have hsz := hf1.size; obtain ⟨A3, c3, rfl, _, _, hrd3, _⟩ := hv.rd)
    | (at_builtin; refine wpList_append_row _ rfl _ _ 38 rfl w.heap.size 46 2 24 _ Tryd.underlying38 Tryd.info_key rfl (by decide) _ _ _ rfl hr3 A3 L.length c3 (flatK L) rfl (flatK_len L) hrd3 (keyCells_one L) (by simp; omega) (by simp [maxLen]; omega) (by simp at hs3; omega) ?_; intro A4 c4 w4 hrow4 hg4 hb4))
  go_ret
  have hf2 : Fr (fun k => k ∈ fp) w (w1.alloc (.cells #[.int .i64 (k : Int), .string ⟨#[]⟩] 46)) := hf1.trans (Fr.alloc (S := fun _ => False) _ _) (fun _ _ e => e.elim)
  rw [HA.out]
  exact ⟨.slice A4 (1 + L.length) c4, rfl, rowK_app (n := 1) hrow4 rfl rfl, (Mv.then hd2 hf2 hs1 hm3).grown hr3 (Nat.le_refl _) hg4⟩
set_option maxRecDepth 100000 in
set_option maxHeartbeats 1600000 in
theorem kBehind_calls {w : World} {db : Nat} {d : Dc} {fp : List Nat} (h : Di w db d fp) (x : UInt8) (hl : d.f.length ≤ 1000) : Calls Tryd.prog 32 #[dptr db, byt x] w (TellsK w db fp (behindD d x)) := by
  by_cases h1 : x = 91
  · have HB := Lib.hid (show behindD d x = ([], d.to 2) by unfold behindD; rw [if_pos h1])
    rw [HB.out]
    subst h1
    go_enter Tryd.func32, Tryd.ntmps32
    go_wp2_with (refine (toM_calls (Mv.refl h) 2).mono ?_; rintro e w1 ⟨rfl, hm1, _⟩)
    go_ret
    exact nil_tells hm1
  have i1 : ((x.toNat : Int) == 91) = false := by rw [beq_eq_false_iff_ne]; intro e; exact h1 (UInt8.toNat_inj.1 (by show x.toNat = 91; omega))
  by_cases h2 : x = 79
  · have HB := Lib.hid (show behindD d x = ([], d.to 3) by unfold behindD; rw [if_neg h1, if_pos h2])
    rw [HB.out]
    subst h2
    go_enter Tryd.func32, Tryd.ntmps32
    go_wp2_with (refine (toM_calls (Mv.refl h) 3).mono ?_; rintro e w1 ⟨rfl, hm1, _⟩)
    go_ret
    exact nil_tells hm1
  have i2 : ((x.toNat : Int) == 79) = false := by rw [beq_eq_false_iff_ne]; intro e; exact h2 (UInt8.toNat_inj.1 (by show x.toNat = 79; omega))
  by_cases h3 : x.toNat < 32 ∨ 127 < x.toNat
  · have HB := Lib.hid (show behindD d x = anewD d 27 x by unfold behindD; rw [if_neg h1, if_neg h2, if_pos h3])
    rw [HB.out]
    have q := kAnew_calls h 27 x hl
    have Q := Lib.hid q
    clear q HB h1 h2 h
    by_cases h4 : x.toNat < 32
    · clear h3
      go_enter Tryd.func32, Tryd.ntmps32
      go_wp2_with (refine Q.out.mono ?_; rintro e w1 ⟨v, rfl, hv⟩)
      go_ret
      exact ⟨v, rfl, hv⟩
    · have h5 := h3.resolve_left h4
      clear h3
      go_enter Tryd.func32, Tryd.ntmps32
      go_wp2_with (refine Q.out.mono ?_; rintro e w1 ⟨v, rfl, hv⟩)
      go_ret
      exact ⟨v, rfl, hv⟩
  have HB := Lib.hid (show behindD d x = ([kb (letK x)], d.to 0) by unfold behindD; rw [if_neg h1, if_neg h2, if_neg h3])
  rw [HB.out]
  have h4 : ¬ x.toNat < 32 := fun e => h3 (.inl e)
  have h5 : ¬ 127 < x.toNat := fun e => h3 (.inr e)
  have HX2 := Lib.hid (keyOf_int_mk Tryd.underlying5 (wf_byte x))
  clear h1 h2 h3 HB
  go_enter Tryd.func32, Tryd.ntmps32
  go_wp2_with (first
    | (refine (toM_calls (Mv.refl h) 0).mono ?_; rintro e w1 ⟨rfl, hm1, _⟩)
    | (refine (letters_calls w1).mono ?_; rintro e w2 ⟨rfl, hown, hb2⟩; have hm2 := hm1.below hb2)
    | (at_lookup; refine wpList_lookup_own_int _ rfl _ _ 73 rfl 5 3 .i64 byteK Tryd.underlying73 Tryd.underlying3 (zero_int _) _ 5 letM rfl hown _ _ rfl HX2.out ?_; intro c hat hwc; obtain rfl := lit_inj ((letM_at x).symm.trans hat); clear hat hwc)
    | (refine (keyone_calls _ w2).mono ?_; rintro e w3 ⟨rfl, rfl⟩))
  go_ret
  exact ⟨_, rfl, one_row w2 w.heap.size _ hm2.size, hm2.alloc _⟩
set_option maxRecDepth 100000 in
set_option maxHeartbeats 1600000 in
theorem kShort_calls {w : World} {db : Nat} {d : Dc} {fp : List Nat} (h : Di w db d fp) (x : UInt8) (hl : d.f.length ≤ 1000) : Calls Tryd.prog 34 #[dptr db, byt x] w (TellsK w db fp (shortD d x)) := by
  have qf := final_calls x w
  by_cases hf : fin x
  · have HB := Lib.hid (show shortD d x = ([kb (arrK x)], d.to 0) by unfold shortD; rw [if_pos hf])
    rw [HB.out]
    have HX2 := Lib.hid (keyOf_int_mk Tryd.underlying5 (wf_byte x))
    rw [decide_eq_true hf] at qf
    have QF := Lib.hid qf
    clear hf HB qf
    go_enter Tryd.func34, Tryd.ntmps34
    go_wp2_with (first
      | (refine QF.out.mono ?_; rintro e w0 ⟨rfl, rfl⟩)
      | (refine (toM_calls (Mv.refl h) 0).mono ?_; rintro e w1 ⟨rfl, hm1, _⟩)
      | (refine (arrows_calls w1).mono ?_; rintro e w2 ⟨rfl, hown, hb2⟩; have hm2 := hm1.below hb2)
      | (at_lookup; refine wpList_lookup_own_int _ rfl _ _ 73 rfl 5 3 .i64 byteK Tryd.underlying73 Tryd.underlying3 (zero_int _) _ 6 arrM rfl hown _ _ rfl HX2.out ?_; intro c hat hwc; obtain rfl := lit_inj ((arrM_at x).symm.trans hat); clear hat hwc)
      | (refine (keyone_calls _ w2).mono ?_; rintro e w3 ⟨rfl, rfl⟩))
    go_ret
    exact ⟨_, rfl, one_row w2 w.heap.size _ hm2.size, hm2.alloc _⟩
  · have HB := Lib.hid (show shortD d x = anewD d 0 x by unfold shortD; rw [if_neg hf])
    rw [HB.out]
    have q := kAnew_calls h 0 x hl
    rw [decide_eq_false hf] at qf
    have Q := Lib.hid q
    have QF := Lib.hid qf
    clear q HB hf h qf
    go_enter Tryd.func34, Tryd.ntmps34
    go_wp2_with (first
      | (refine QF.out.mono ?_; rintro e w0 ⟨rfl, rfl⟩)
      | (refine Q.out.mono ?_; rintro e w1 ⟨v, rfl, hv⟩))
    go_ret
    exact ⟨v, rfl, hv⟩
end Go.Proofs.YticaeflnpgbngaaDoor
