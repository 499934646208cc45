import Derived.Test.YtpemjhghiccngaaDoorHs15
namespace Go.Proofs.YtpemjhghiccngaaDoor
set_option linter.unusedVariables false
set_option linter.unusedSimpArgs false
open Go.RowKit Go.Shelf
/-! A history in memory. -/
def rbH (v : Value) : List Nat := match v.ownBlock with | some g => [g] | none => []
theorem rbH_of {v : Value} {g : Nat} (h : g ∈ rbH v) : v.ownBlock = some g := by
  unfold rbH at h
  cases hv : v.ownBlock with
  | none => rw [hv] at h; cases h
  | some k => rw [hv] at h; rw [List.mem_singleton.1 h]
theorem rbH_mem {v : Value} {g : Nat} (h : v.ownBlock = some g) : g ∈ rbH v := by unfold rbH; rw [h]; exact List.mem_singleton.2 rfl
def HsAt (w : World) (hb : Nat) (l : List EntT) (c : List Bs) (vl vc : Value) : Prop :=
  w.heap[hb]? = some (.cells #[vl, vc] 67 (0, 0)) ∧ Row w 0 35 3 vl l.length (flatE l) ∧ Row w 0 9 1 vc c.length (c.map str)
def Hi (w : World) (hb : Nat) (l : List EntT) (c : List Bs) (fp : List Nat) : Prop := ∃ vl vc, HsAt w hb l c vl vc ∧ fp = hb :: (rbH vl ++ rbH vc)
theorem Row.blk {w : World} {B : Nat} {e : TypeId} {sz : Nat} {v : Value} {n : Nat} {xs : List Value} (h : Row w B e sz v n xs) {g : Nat} (hg : v.ownBlock = some g) : ∃ cur, w.heap[g]? = some (.cells cur e (0, 0)) := by
  rcases h.2 with ⟨rfl, _⟩ | ⟨g', off, cap, cur, rfl, _, hb, _⟩
  · simp [Value.ownBlock] at hg
  · obtain rfl : g' = g := by simpa [Value.ownBlock] using hg
    exact ⟨_, hb⟩
theorem HsAt.move {w w' : World} {hb : Nat} {l : List EntT} {c : List Bs} {vl vc : Value} (h : HsAt w hb l c vl vc) (hm : ∀ b ∈ hb :: (rbH vl ++ rbH vc), w'.heap[b]? = w.heap[b]?) : HsAt w' hb l c vl vc :=
  ⟨(hm hb (List.mem_cons_self ..)).trans h.1, h.2.1.at_ fun k hk => hm k (by simp [rbH_mem hk]), h.2.2.at_ fun k hk => hm k (by simp [rbH_mem hk])⟩
theorem HsAt.lt {w : World} {hb : Nat} {l : List EntT} {c : List Bs} {vl vc : Value} (h : HsAt w hb l c vl vc) : ∀ b ∈ hb :: (rbH vl ++ rbH vc), b < w.heap.size := by
  intro b hm
  rcases List.mem_cons.1 hm with e | e
  · rw [e]; exact lt_of_heap h.1
  · rcases List.mem_append.1 e with e | e
    · exact (h.2.1.lt b (rbH_of e)).2
    · exact (h.2.2.lt b (rbH_of e)).2
theorem HsAt.ne {w : World} {hb : Nat} {l : List EntT} {c : List Bs} {vl vc : Value} (h : HsAt w hb l c vl vc) : (∀ g, vl.ownBlock = some g → g ≠ hb) ∧ (∀ g, vc.ownBlock = some g → g ≠ hb) ∧ (∀ g, vl.ownBlock = some g → vc.ownBlock ≠ some g) := by
  refine ⟨fun g hg e => ?_, fun g hg e => ?_, fun g hg e => ?_⟩
  · obtain ⟨cur, hc⟩ := h.2.1.blk hg
    rw [e, h.1] at hc; cases hc
  · obtain ⟨cur, hc⟩ := h.2.2.blk hg
    rw [e, h.1] at hc; cases hc
  · obtain ⟨cur, hc⟩ := h.2.1.blk hg
    obtain ⟨cur2, hc2⟩ := h.2.2.blk e
    rw [hc] at hc2; cases hc2
theorem Hi.move {w w' : World} {hb : Nat} {l : List EntT} {c : List Bs} {fp : List Nat} (h : Hi w hb l c fp) (hm : ∀ b ∈ fp, w'.heap[b]? = w.heap[b]?) : Hi w' hb l c fp := by
  obtain ⟨vl, vc, h1, rfl⟩ := h
  exact ⟨vl, vc, h1.move hm, rfl⟩
theorem Hi.lt {w : World} {hb : Nat} {l : List EntT} {c : List Bs} {fp : List Nat} (h : Hi w hb l c fp) : ∀ b ∈ fp, b < w.heap.size := by
  obtain ⟨vl, vc, h1, rfl⟩ := h
  exact h1.lt
theorem Hi.later {w w' : World} {hb : Nat} {l : List EntT} {c : List Bs} {fp : List Nat} (h : Hi w hb l c fp) (hb2 : Below w.heap.size w w') : Hi w' hb l c fp := h.move fun b hm => hb2.block b (h.lt b hm)
theorem Hi.fr {w w' : World} {hb : Nat} {l : List EntT} {c : List Bs} {fp : List Nat} {S : Nat → Prop} (h : Hi w hb l c fp) (hf : Fr S w w') (hn : ∀ b ∈ fp, ¬ S b) : Hi w' hb l c fp := h.move fun b hm => hf.block b (h.lt b hm) (hn b hm)
/-- A block of another type is none of a history's. -/
theorem Hi.not_in {w : World} {hb : Nat} {l : List EntT} {c : List Bs} {fp : List Nat} (h : Hi w hb l c fp) {b : Nat} {cs : Array Value} {T : TypeId} {r : Nat × Nat} (hb2 : w.heap[b]? = some (.cells cs T r)) (h1 : T ≠ 67) (h2 : T ≠ 35) (h3 : T ≠ 9) : b ∉ fp := by
  obtain ⟨vl, vc, k, rfl⟩ := h
  intro hm
  rcases List.mem_cons.1 hm with e | e
  · rw [e, k.1] at hb2; cases hb2; exact h1 rfl
  · rcases List.mem_append.1 e with e | e
    · obtain ⟨cur, hc⟩ := k.2.1.blk (rbH_of e); rw [hc] at hb2; cases hb2; exact h2 rfl
    · obtain ⟨cur, hc⟩ := k.2.2.blk (rbH_of e); rw [hc] at hb2; cases hb2; exact h3 rfl
theorem hi_cells {W : World} {b : Nat} {T : TypeId} {x y : Value} (h : W.heap[b]? = some (.cells #[x, y] T (0, 0))) : W.cell? ⟨b, 0, none⟩ = some x ∧ W.cell? ⟨b, 1, none⟩ = some y ∧ W.frozen? ⟨b, 0, none⟩ = false ∧ W.frozen? ⟨b, 1, none⟩ = false :=
  ⟨by rw [cell_of_row W b _ _ _ (0, 0) h]; rfl, by rw [cell_of_row W b _ _ _ (0, 0) h]; rfl, frozen_of_row W b _ _ _ h, frozen_of_row W b _ _ _ h⟩
abbrev hptr (hb : Nat) : Value := .pointer (some ⟨hb, 0, none⟩)
theorem HNew_calls (w : World) : Calls Tryd.prog 12 #[] w fun e w' => e = .returned (hptr w.heap.size) ∧ Hi w' w.heap.size [] [] [w.heap.size] ∧ Below w.heap.size w w' := by
  go_enter Tryd.func12, Tryd.ntmps12
  go_wp2
  go_ret
  exact ⟨rfl, ⟨_, _, ⟨heap_alloc_new w _, Row.nil _ _ _ _, Row.nil _ _ _ _⟩, rfl⟩, (Below.refl _ _).alloc (Nat.le_refl _) _⟩
theorem HLen_calls (w : World) {hb : Nat} {l : List EntT} {c : List Bs} {fp : List Nat} (h : Hi w hb l c fp) (hc : c.length ≤ 1000000) : Calls Tryd.prog 21 #[hptr hb] w fun e w' => e = .returned (n64 c.length) ∧ w = w' := by
  obtain ⟨vl, vc, ⟨h1, h2, h3⟩, rfl⟩ := h
  obtain ⟨A, cc, rfl, _⟩ := h3.rd
  obtain ⟨c0, c1, _, _⟩ := hi_cells h1
  clear h1 h2 h3
  go_enter Tryd.func21, Tryd.ntmps21
  go_wp2
  go_ret
  exact ⟨rfl, rfl⟩
/-! Uses. -/
def useCells (e : EntT) : List Value := [.int .i64 e.t, str e.d]
def flatU (l : List EntT) : List Value := (l.map useCells).flatten
theorem flatU_app (a b : List EntT) : flatU (a ++ b) = flatU a ++ flatU b := by simp [flatU]
def usesE (l : List EntT) (s : Bs) : List EntT := l.filter fun x => decide (x.c = s)
theorem usesE_step {l : List EntT} {k : Nat} {x : EntT} (hx : l[k]? = some x) (s : Bs) : usesE (l.take (k + 1)) s = usesE (l.take k) s ++ (if x.c = s then [x] else []) := by
  unfold usesE
  rw [List.take_add_one, hx, List.filter_append]
  congr 1
  by_cases h : x.c = s <;> simp [h]
theorem usesE_len (l : List EntT) (s : Bs) : (usesE l s).length ≤ l.length := List.length_filter_le _ _
theorem Tryd.info_use : (Tryd.prog.info? 51).map (fun i => (i.zero, i.size, i.bytes)) = some (some (.agg #[.int .i64 0, .string ByteArray.empty]), 2, 24) := by kernel_rfl
set_option maxRecDepth 100000 in
set_option maxHeartbeats 1600000 in
theorem HUses_calls (w : World) {hb : Nat} {l : List EntT} {c : List Bs} {fp : List Nat} (h : Hi w hb l c fp) (hl : l.length ≤ 1000000) (s : Bs) (sb : ByteArray) (hs : sb = ⟨s.toArray⟩) :
    Calls Tryd.prog 24 #[hptr hb, .string sb] w fun e w' => ∃ A1 c1, e = .returned (.slice A1 (usesE l s).length c1) ∧ Row w' w.heap.size 51 2 (.slice A1 (usesE l s).length c1) (usesE l s).length (flatU (usesE l s)) ∧ Below w.heap.size w w' := by
  obtain ⟨vl, vc, ⟨h1, h2, h3⟩, rfl⟩ := h
  obtain ⟨A, cc, rfl, _, _, hrd, _⟩ := h2.rd
  obtain ⟨k0, k1, _, _⟩ := hi_cells h1
  have HA := Lib.hid hrd
  have HS := Lib.hid hs
  clear h1 h2 h3 hrd hs
  go_enter Tryd.func24, Tryd.ntmps24
  go_wp2
  go_loopw [5, 13] (fun u5 u13 wr => ∃ (k m : Nat) (A1 : Option Addr) (c1 : Nat), u13 = n64 k ∧ k ≤ l.length ∧ m ≤ k ∧ Hid (m = (usesE (l.take k) s).length) ∧ u5 = .slice A1 m c1 ∧ Hid (Row wr w.heap.size 51 2 (.slice A1 m c1) m (flatU (usesE (l.take k) s))) ∧ Hid (Below w.heap.size w wr)) (fun _ u13 _ => (l.length - intOf u13).toNat)
  case atStart => exact ⟨0, 0, none, 0, rfl, Nat.zero_le _, Nat.le_refl _, Lib.hid rfl, rfl, Lib.hid (by simpa [flatU, usesE] using Row.nil _ _ _ _), Lib.hid (Below.refl _ _)⟩
  case round =>
    obtain ⟨k, m, A1, c1, rfl, hk, hm, HM, rfl, HR, HW⟩ := hrel
    clear k0 k1
    by_cases hlt : k < l.length
    · obtain ⟨x, hx⟩ : ∃ x, l[k]? = some x := ⟨_, List.getElem?_eq_getElem hlt⟩
      obtain ⟨g, off, rfl, v0, v1, v2⟩ := RdE.at (HA.out.later HW.out) hx
      obtain ⟨sx, hsx⟩ : ∃ s : ByteArray, s = ⟨x.c.toArray⟩ := ⟨_, rfl⟩
      have hbe := str_beq hsx HS.out
      rw [lit_of hsx] at v2
      have b1 : (k : Int) < (l.length : Int) := by omega
      have hB : w.heap.size ≤ wr.heap.size := HW.out.size
      have hst := usesE_step hx s
      by_cases hxs : x.c = s
      · rw [decide_eq_true hxs] at hbe
        rw [if_pos hxs] at hst
        have hnews := rdNew (wr.alloc (.cells #[.int .i64 x.t, str x.d, .string sx] 35)) #[.int .i64 x.t, str x.d] 51
        rw [World.size_alloc] at hnews
        have HN := Lib.hid hnews
        have HST := Lib.hid hst
        clear hx hnews hst hsx hxs
        go_wp2_with (at_builtin; refine wpList_append_row _ rfl _ _ 46 rfl w.heap.size 51 2 24 _ Tryd.underlying46 Tryd.info_use rfl (by decide) (.slice A1 m c1) m _ rfl ((HR.out.alloc _).alloc _) (some ⟨wr.heap.size + 1, 0, none⟩) 1 1 [.int .i64 x.t, str x.d] rfl rfl HN.out (by simp [Value.oneCell']) (by omega) (by simp only [maxLen]; omega) (by simp; omega) ?_; intro A2 c2 w2 hrow2 hg2 hb2; have B2 : Below w.heap.size w w2 := Below.grown ((HW.out.alloc hB _).alloc (by simp; omega) _) hg2 (by simp; omega) (fun j e => (HR.out.lt j e).1))
        have HROW2 : Hid (Row w2 w.heap.size 51 2 (.slice A2 (m + 1) c2) (m + 1) (flatU (usesE (l.take (k + 1)) s))) := Lib.hid (by rw [HST.out, flatU_app]; simpa [flatU, useCells] using hrow2)
        have HB2 := Lib.hid B2
        have HM2 : Hid (m + 1 = (usesE (l.take (k + 1)) s).length) := Lib.hid (by rw [HST.out, List.length_append, ← HM.out]; rfl)
        clear hrow2 hg2 hb2 B2
        go_roundw
        case rel => exact ⟨k + 1, m + 1, A2, c2, by go_num, by omega, by omega, HM2, rfl, HROW2, HB2⟩
        case measure => simp [intOf]; omega
      · rw [decide_eq_false hxs] at hbe
        rw [if_neg hxs, List.append_nil] at hst
        have HST := Lib.hid hst
        clear hx hst hsx hxs
        go_wp2
        go_roundw
        case rel => exact ⟨k + 1, m, A1, c1, by go_num, by omega, by omega, Lib.hid (by rw [HST.out]; exact HM.out), rfl, Lib.hid (by rw [HST.out]; exact HR.out.alloc _), Lib.hid (HW.out.alloc hB _)⟩
        case measure => simp [intOf]; omega
    · obtain rfl : k = l.length := by omega
      go_wp2
      go_ret
      have hrow := HR.out
      have hmm := HM.out
      rw [List.take_length] at hrow hmm
      subst hmm
      exact ⟨_, _, rfl, hrow, HW.out⟩
end Go.Proofs.YtpemjhghiccngaaDoor
