import Derived.Test.YtpemjhghiccngaaDoorHs16
namespace Go.Proofs.YtpemjhghiccngaaDoor
set_option linter.unusedVariables false
set_option linter.unusedSimpArgs false
open Go.RowKit Go.Shelf
/-! Clones. -/
theorem str_ones (c : List Bs) : ∀ u ∈ c.map str, u.oneCell' = true := by
  intro u hu
  obtain ⟨x, _, rfl⟩ := List.mem_map.1 hu; rfl
set_option maxRecDepth 100000 in
set_option maxHeartbeats 1600000 in
theorem CloneE_calls (w : World) (v : Value) (l : List EntT) (hr : Row w 0 35 3 v l.length (flatE l)) (hl : l.length ≤ 1000000) :
    Calls Tryd.prog 46 #[v] w fun e w' => ∃ A1 c1, e = .returned (.slice A1 l.length c1) ∧ Row w' w.heap.size 35 3 (.slice A1 l.length c1) l.length (flatE l) ∧ Below w.heap.size w w' := by
  obtain ⟨A, c, rfl, _, _, hrd, _⟩ := hr.rd
  cases A with
  | none =>
    have h0 : l.length = 0 ∧ c = 0 := by
      rcases hr.2 with ⟨e, h⟩ | ⟨g, off, cap, cur, e, _⟩
      · injection e with _ _ e3; exact ⟨h, e3⟩
      · cases e
    obtain ⟨h0, rfl⟩ := h0
    have hl0 : l = [] := List.eq_nil_of_length_eq_zero h0
    subst hl0
    clear hr hrd
    have hnil : ∀ W, (binOp .eql 39 (.slice none 0 0) (.slice none 0 0)).run Tryd.prog W = .ok (.bool true) W := fun W => Lib.run_eql_slice_nil W 39 35 _ _ _ _ _ Tryd.underlying39
    go_enter Tryd.func46, Tryd.ntmps46
    go_wp2
    go_ret
    exact ⟨_, _, rfl, Row.nil _ _ _ _, Below.refl _ _⟩
  | some a =>
    have HRD := Lib.hid (hrd.later ((Below.refl _ w).alloc (Nat.le_refl _) (.cells #[] 35)))
    have HO := Lib.hid (flatE_one l)
    have HL := Lib.hid (flatE_len l)
    clear hr hrd
    have hnil : ∀ W, (binOp .eql 39 (.slice (some a) l.length c) (.slice none 0 0)).run Tryd.prog W = .ok (.bool false) W := fun W => Lib.run_eql_slice_nil W 39 35 _ _ _ _ _ Tryd.underlying39
    go_enter Tryd.func46, Tryd.ntmps46
    go_wp2_with (at_builtin; refine wpList_append_row _ rfl _ _ 39 rfl w.heap.size 35 3 40 _ Tryd.underlying39 Tryd.info_ent rfl (by decide) (.slice (some ⟨w.heap.size, 0, none⟩) 0 0) 0 [] rfl (Row.new w #[] w.heap.size 35 3 0 (Nat.le_refl _) (by simp [maxLen]) (by simp)) (some a) l.length c (flatE l) rfl HL.out HRD.out HO.out (by omega) (by simp only [maxLen]; omega) (by simp) ?_; intro A1 c1 w1 hrow1 hg1 hb1)
    go_ret
    simp only [Nat.zero_add, List.nil_append] at hrow1 ⊢
    exact ⟨_, _, rfl, hrow1, ((Below.refl _ w).alloc (Nat.le_refl _) _).grown hg1 (by simp) (fun j e => by simp [Value.ownBlock] at e; omega)⟩
set_option maxRecDepth 100000 in
set_option maxHeartbeats 1600000 in
theorem CloneS_calls (w : World) (v : Value) (l : List Bs) (hr : Row w 0 9 1 v l.length (l.map str)) (hl : l.length ≤ 1000000) :
    Calls Tryd.prog 52 #[v] w fun e w' => ∃ A1 c1, e = .returned (.slice A1 l.length c1) ∧ Row w' w.heap.size 9 1 (.slice A1 l.length c1) l.length (l.map str) ∧ Below w.heap.size w w' := by
  obtain ⟨A, c, rfl, _, _, hrd, _⟩ := hr.rd
  cases A with
  | none =>
    have h0 : l.length = 0 ∧ c = 0 := by
      rcases hr.2 with ⟨e, h⟩ | ⟨g, off, cap, cur, e, _⟩
      · injection e with _ _ e3; exact ⟨h, e3⟩
      · cases e
    obtain ⟨h0, rfl⟩ := h0
    have hl0 : l = [] := List.eq_nil_of_length_eq_zero h0
    subst hl0
    clear hr hrd
    have hnil : ∀ W, (binOp .eql 29 (.slice none 0 0) (.slice none 0 0)).run Tryd.prog W = .ok (.bool true) W := fun W => Lib.run_eql_slice_nil W 29 9 _ _ _ _ _ Tryd.underlying29
    go_enter Tryd.func52, Tryd.ntmps52
    go_wp2
    go_ret
    exact ⟨_, _, rfl, Row.nil _ _ _ _, Below.refl _ _⟩
  | some a =>
    have HRD := Lib.hid (hrd.later ((Below.refl _ w).alloc (Nat.le_refl _) (.cells #[] 9)))
    have HO := Lib.hid (str_ones l)
    clear hr hrd
    have hnil : ∀ W, (binOp .eql 29 (.slice (some a) l.length c) (.slice none 0 0)).run Tryd.prog W = .ok (.bool false) W := fun W => Lib.run_eql_slice_nil W 29 9 _ _ _ _ _ Tryd.underlying29
    go_enter Tryd.func52, Tryd.ntmps52
    go_wp2_with (at_builtin; refine wpList_append_row _ rfl _ _ 29 rfl w.heap.size 9 1 16 _ Tryd.underlying29 Tryd.info_str rfl (by decide) (.slice (some ⟨w.heap.size, 0, none⟩) 0 0) 0 [] rfl (Row.new w #[] w.heap.size 9 1 0 (Nat.le_refl _) (by simp [maxLen]) (by simp)) (some a) l.length c (l.map str) rfl (by simp) HRD.out HO.out (by omega) (by simp only [maxLen]; omega) (by simp) ?_; intro A1 c1 w1 hrow1 hg1 hb1)
    go_ret
    simp only [Nat.zero_add, List.nil_append] at hrow1 ⊢
    exact ⟨_, _, rfl, hrow1, ((Below.refl _ w).alloc (Nat.le_refl _) _).grown hg1 (by simp) (fun j e => by simp [Value.ownBlock] at e; omega)⟩
theorem HEntries_calls (w : World) {hb : Nat} {l : List EntT} {c : List Bs} {fp : List Nat} (h : Hi w hb l c fp) (hl : l.length ≤ 1000000) :
    Calls Tryd.prog 18 #[hptr hb] w fun e w' => ∃ A1 c1, e = .returned (.slice A1 l.length c1) ∧ Row w' w.heap.size 35 3 (.slice A1 l.length c1) l.length (flatE l) ∧ Below w.heap.size w w' := by
  obtain ⟨vl, vc, ⟨h1, h2, h3⟩, rfl⟩ := h
  have q := CloneE_calls w vl l h2 hl
  obtain ⟨A, cc, rfl, _⟩ := h2.rd
  obtain ⟨c0, c1, _, _⟩ := hi_cells h1
  have Q := Lib.hid q
  clear h1 h2 h3 q
  go_enter Tryd.func18, Tryd.ntmps18
  go_wp2_with fail
  refine Q.out.mono ?_
  rintro e w' ⟨A1, c1, rfl, h1, h2⟩
  go_wp2
  go_ret
  exact ⟨_, _, rfl, h1, h2⟩
set_option maxRecDepth 100000 in
set_option maxHeartbeats 1600000 in
theorem HCopy_calls (w : World) {hb : Nat} {l : List EntT} {c : List Bs} {fp : List Nat} (h : Hi w hb l c fp) (hl : l.length ≤ 1000000) (hcl : c.length ≤ 1000000) :
    Calls Tryd.prog 30 #[hptr hb] w fun e w' => ∃ hb' fp', e = .returned (hptr hb') ∧ Hi w' hb' l c fp' ∧ (∀ b ∈ fp', w.heap.size ≤ b) ∧ Below w.heap.size w w' := by
  obtain ⟨vl, vc, ⟨h1, h2, h3⟩, rfl⟩ := h
  have q1 := fun (W : World) (hb : Below w.heap.size w W) => CloneE_calls W vl l (h2.below hb (Nat.le_refl _)) hl
  have q2 := fun (W : World) (hb : Below w.heap.size w W) => CloneS_calls W vc c (h3.below hb (Nat.le_refl _)) hcl
  obtain ⟨A, cc, rfl, _⟩ := h2.rd
  obtain ⟨A', cc', rfl, _⟩ := h3.rd
  obtain ⟨c0, c1, _, _⟩ := hi_cells h1
  have HH := Lib.hid h1
  have Q1 := Lib.hid q1
  have Q2 := Lib.hid q2
  clear h1 h2 h3 q1 q2
  go_enter Tryd.func30, Tryd.ntmps30
  go_wp2_with fail
  go_region_held3 (fun w' => w'.cell? ⟨hb, 0, none⟩ = some (.slice A l.length cc) ∧ w'.cell? ⟨hb, 1, none⟩ = some (.slice A' c.length cc')) (first | exact ⟨c0, c1⟩ | exact ⟨d0, d1⟩ | exact ⟨e0, e1⟩ | go_keep) (first
    | (go_at_call 46; (with_reducible refine (Q1.out w.drew ((Below.refl _ w).drew)).mono ?_); rintro e w3 ⟨A3, c3, rfl, h3, b3⟩; have D3 : Below w.heap.size w w3 := ((Below.refl _ w).drew).trans b3; obtain ⟨d0, d1, _, _⟩ := hi_cells (keepB HH.out D3))
    | (go_at_call 52; (with_reducible refine (Q2.out w3 D3).mono ?_); rintro e w4 ⟨A4, c4, rfl, h4, b4⟩; have D4 : Below w.heap.size w w4 := D3.trans (b4.mono D3.size); obtain ⟨e0, e1, _, _⟩ := hi_cells (keepB HH.out D4)))
  go_wp2
  go_ret
  have h3' := (h3.below b4 (Nat.le_refl _)).alloc (.cells #[.slice A3 l.length c3, .slice A4 c.length c4] 67)
  have h4' := h4.alloc (.cells #[.slice A3 l.length c3, .slice A4 c.length c4] 67)
  refine ⟨_, _, rfl, ⟨_, _, ⟨heap_alloc_new w4 _, h3'.mono (Nat.zero_le _), h4'.mono (Nat.zero_le _)⟩, rfl⟩, ?_, D4.alloc D4.size _⟩
  intro b hb
  rcases List.mem_cons.1 hb with e | e
  · rw [e]; exact D4.size
  · rcases List.mem_append.1 e with e | e
    · exact (h3'.lt b (rbH_of e)).1
    · exact Nat.le_trans D3.size (h4'.lt b (rbH_of e)).1
end Go.Proofs.YtpemjhghiccngaaDoor
