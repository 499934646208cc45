import Derived.Test.YtfgjhfmgacopoaaDoorLo10
namespace Go.Proofs.YtfgjhfmgacopoaaDoor
set_option linter.unusedVariables false
set_option linter.unusedSimpArgs false
open Go.RowKit Go.Shelf
/-! Chapter 18: how a view looks. -/
attribute [local go_sem] Oper.semAt_some
theorem place_le (cols : Nat) (S : ShT) (c : Bs) : (placeP cols S c).1 ≤ (putP cols S c).done.length := Nat.le_refl _
theorem put_mono (cols : Nat) (S : ShT) (c : Bs) : S.done.length ≤ (putP cols S c).done.length := by
  unfold putP fitP
  split
  · simp [ShT.rows]
  · simp
theorem fold_mono (cols : Nat) : (l : List Bs) → (S : ShT) → S.done.length ≤ (foldS cols S l).done.length
  | [], S => Nat.le_refl _
  | c :: l, S => Nat.le_trans (put_mono cols S c) (fold_mono cols l (putP cols S c))
theorem curF_le (cols a : Nat) : (l : List Bs) → (S : ShT) → (k : Nat) → (p : Nat × Nat) → p.1 ≤ S.done.length → (curF cols a S k l p).1 ≤ (foldS cols S l).done.length
  | [], S, k, p, h => h
  | c :: l, S, k, p, h => by
    rw [curF]
    refine curF_le cols a l (putP cols S c) (k + c.length) _ ?_
    split
    · exact place_le cols S c
    · exact Nat.le_trans h (put_mono cols S c)
theorem ViewT.drawn_len (v : ViewT) : v.drawn.length = v.s3.done.length + 1 := by
  unfold ViewT.drawn
  by_cases h : v.isR = true
  · rw [if_pos h, (v.right_is h).2.1]; rfl
  · rw [if_neg h]; simp
theorem ViewT.cur_lt (v : ViewT) : v.cursor.1 < v.drawn.length := by
  rw [v.drawn_len]
  unfold ViewT.cursor
  by_cases h : v.atEnd = true
  · rw [if_pos h]; simp
  · rw [if_neg h]
    have e : v.s3 = v.s2 := by unfold ViewT.s3; rw [if_neg h]
    rw [e]
    have := curF_le v.c v.at' (cuts v.tx) v.s1 0 (0, 0) (Nat.zero_le _)
    exact Nat.lt_succ_of_le this
def ShT.Ok (cols : Nat) (S : ShT) : Prop := (∀ l ∈ S.done, l.length = cols) ∧ S.cur.length ≤ cols
theorem fit_ok {cols : Nat} {S : ShT} (h : S.Ok cols) (n : Nat) : (fitP cols S n).Ok cols := by
  unfold fitP
  split
  · refine ⟨fun l hl => ?_, Nat.zero_le _⟩
    rcases List.mem_append.1 hl with hl | hl
    · exact h.1 l hl
    · rw [List.mem_singleton] at hl; subst hl; exact pad_len h.2
  · exact h
theorem put_ok {cols : Nat} (hc : 1 ≤ cols) {S : ShT} (h : S.Ok cols) (c : Bs) : (putP cols S c).Ok cols :=
  ⟨(fit_ok h _).1, put_le cols S c hc⟩
theorem fold_ok {cols : Nat} (hc : 1 ≤ cols) : (l : List Bs) → (S : ShT) → S.Ok cols → (foldS cols S l).Ok cols
  | [], S, h => h
  | c :: l, S, h => fold_ok hc l _ (put_ok hc h c)
theorem ViewT.s2_ok (v : ViewT) : v.s2.Ok v.c := fold_ok v.c_range.1 _ _ (fold_ok v.c_range.1 _ _ ⟨fun _ h => by simp at h, Nat.zero_le _⟩)
theorem ViewT.s3_ok (v : ViewT) : v.s3.Ok v.c := by
  unfold ViewT.s3
  split
  · exact fit_ok v.s2_ok 1
  · exact v.s2_ok
theorem ViewT.drawn_cols (v : ViewT) : ∀ l ∈ v.drawn, l.length = v.c := by
  intro l hl
  unfold ViewT.drawn at hl
  by_cases h : v.isR = true
  · rw [if_pos h, List.mem_singleton] at hl
    obtain ⟨_, _, _, hf⟩ := v.right_is h
    subst hl
    unfold rightP
    simp only [List.length_append, blanks_len]
    omega
  · rw [if_neg h] at hl
    rcases List.mem_append.1 hl with hl | hl
    · exact v.s3_ok.1 l hl
    · rw [List.mem_singleton] at hl; subst hl; exact pad_len v.A_le
/-- A part of a row. -/
theorem Row.sub {w : World} {B : Nat} {e : TypeId} {g o c n : Nat} {xs : List Value} (h : Row w B e 1 (.slice (some ⟨g, o, none⟩) n c) n xs) {lo hi : Nat} (h1 : lo ≤ hi) (h2 : hi ≤ n) (hpos : 0 < c - lo ∨ lo = hi) :
    Row w B e 1 (.slice (some ⟨g, o + lo, none⟩) (hi - lo) (c - lo)) (hi - lo) ((xs.drop lo).take (hi - lo)) := by
  have hl := h.1
  refine ⟨by rw [List.length_take, List.length_drop]; omega, ?_⟩
  rcases h.2 with ⟨hv, _⟩ | ⟨g', o', c', cur, hv, hb, hg, hn, hm, hs, ht⟩
  · cases hv
  · injection hv with a1 a2 a3
    injection a1 with a1
    injection a1 with a1 a4
    subst a1 a4 a3
    refine .inr ⟨g, o + lo, c - lo, cur, rfl, hb, hg, by omega, by omega, by omega, ?_⟩
    rw [← ht, List.drop_take, List.drop_drop, List.take_take]
    congr 1
    omega
theorem ViewT.drawn_few (v : ViewT) : v.drawn.length ≤ 2600 := by
  rw [v.drawn_len]
  have h1 := fold_done v.c (cuts (plainL v.left)) ⟨[], []⟩
  have h2 := fold_done v.c (cuts v.tx) v.s1
  have h3 := cuts_len (plainL v.left)
  have h4 := cuts_len v.tx
  have h5 := plainL_len v.left
  have h6 := plainL_len v.text
  have e1 : v.s1 = foldS v.c ⟨[], []⟩ (cuts (plainL v.left)) := rfl
  have e2 : v.s2 = foldS v.c v.s1 (cuts v.tx) := rfl
  have e3 : v.tx.length ≤ 1200 := h6
  rw [← e1] at h1
  rw [← e2] at h2
  simp only [List.length_nil] at h1
  have h7 : v.s3.done.length ≤ v.s2.done.length + 1 := by
    unfold ViewT.s3 fitP
    split
    · split
      · simp [ShT.rows]
      · omega
    · omega
  omega
def frV (v : Value) (f : FrameT) : Value := .agg #[v, n64 f.row, n64 f.col]
theorem RowsAt.sub {w : World} {B cols : Nat} {L : List RowT} {g o c : Nat} {rs : List Nat} (h : RowsAt w B cols L (.slice (some ⟨g, o, none⟩) L.length c) rs) {lo hi : Nat} (h1 : lo < hi) (h2 : hi ≤ L.length) :
    RowsAt w B cols ((L.drop lo).take (hi - lo)) (.slice (some ⟨g, o + lo, none⟩) (hi - lo) (c - lo)) ((rs.drop lo).take (hi - lo)) := by
  have hl : ((L.drop lo).take (hi - lo)).length = hi - lo := by rw [List.length_take, List.length_drop]; omega
  refine ⟨?_, ?_, ?_, ?_⟩
  · rw [hl]
    have := h.out.sub (lo := lo) (hi := hi) (by omega) h2 (.inl (by
      obtain ⟨A, c', hv, hn, _⟩ := h.out.rd
      injection hv with _ _ h3
      subst h3
      omega))
    rw [← List.map_drop, ← List.map_take] at this
    exact this
  · rw [hl, List.length_take, List.length_drop, h.rl]; omega
  · intro k r l e1 e2
    rw [List.getElem?_take] at e1 e2
    split at e1
    · rw [if_pos (by assumption)] at e2
      rw [List.getElem?_drop] at e1 e2
      exact h.rows _ r l e1 e2
    · cases e1
  · exact (h.nd.sublist (List.drop_sublist lo rs)).sublist (List.take_sublist _ _)
theorem RowsAt.setCell {w : World} {B cols : Nat} {L : List RowT} {v : Value} {rs : List Nat} (h : RowsAt w B cols L v rs) {g i : Nat} {cs : Array Value} {T : TypeId} {m : Nat × Nat} (hg : w.heap[g]? = some (.cells cs T m)) (hT : NotS T) (u : Value) :
    RowsAt (w.setCell ⟨g, i, none⟩ u) B cols L v rs := by
  have hmv : ∀ k : Nat, k ≠ g → (w.setCell ⟨g, i, none⟩ u).heap[k]? = w.heap[k]? := fun k h2 => heap_setCell_other _ _ _ _ h2
  refine ⟨?_, h.rl, ?_, h.nd⟩
  · exact h.out.at_ fun k hk => hmv k (fun e => h.out.ne_box hg (fun e => hT.2.1 e.symm) (by rw [← e]; exact hk))
  · intro k r l e1 e2
    obtain ⟨x, y, t⟩ := h.rows k r l e1 e2
    exact ⟨(hmv _ (ne_of_types x hg (fun e => hT.1 e.symm))).trans x, y, t⟩
theorem ns_frame : NotS 28 := ⟨by decide, by decide, by decide⟩
theorem take_min {α : Type} (l : List α) (t n : Nat) : (l.drop t).take (min l.length (t + n) - t) = (l.drop t).take n := by
  by_cases h : l.length ≤ t + n
  · rw [Nat.min_eq_left h, List.take_of_length_le (by rw [List.length_drop]; omega), List.take_of_length_le (by rw [List.length_drop]; omega)]
  · rw [Nat.min_eq_right (by omega)]; congr 1; omega
theorem load_frame {w : World} {b : Nat} {x y z : Value} (h : w.heap[b]? = some (.cells #[x, y, z] 28 (0, 0))) : (loadVar 28 ⟨b, 0, none⟩).run Tryd.prog w = .ok (.agg #[x, y, z]) w :=
  run_loadVar_row w b _ _ _ (0, 0) _ h Tryd.underlying28 rfl (by kernel_rfl)
set_option maxHeartbeats 4000000 in
set_option maxRecDepth 100000 in
theorem LOf_calls (v : ViewT) (hv : v.small) (w : World) (hU : U8 w) :
    Calls Tryd.prog 11 #[v.val] w fun e w' => ∃ vv rs, e = .returned (frV vv v.of) ∧ RowsAt w' w.heap.size v.c v.of.rows vv rs ∧ Below w.heap.size w w' := by
  have DR := Lib.hid (fun W hW => drawn_calls v hv W hW)
  have NW := Lib.hid (fun W => New_calls v.rows v.cols W)
  unfold ViewT.val at DR ⊢
  go_enter Tryd.func11, Tryd.ntmps11
  go_wp2_with fail
  obtain ⟨W0, hW0⟩ : ∃ W0, W0 = (w.alloc (.cells #[.int .i64 v.rows, .int .i64 v.cols, str v.left, str v.right, str v.ghost, str v.text, .int .i64 v.at_] 30)).alloc (.cells #[.slice none 0 0, .int .i64 0, .int .i64 0] 28) := ⟨_, rfl⟩
  obtain ⟨b1, hb1⟩ : ∃ b, b = w.heap.size := ⟨_, rfl⟩
  obtain ⟨b2, hb2⟩ : ∃ b, b = w.heap.size + 1 := ⟨_, rfl⟩
  have V0 : ViewAt W0 b1 v := by
    rw [hW0, hb1]
    have h0 : ViewAt (w.alloc (.cells #[.int .i64 v.rows, .int .i64 v.cols, str v.left, str v.right, str v.ghost, str v.text, .int .i64 v.at_] 30)) w.heap.size v := heap_alloc_new w _
    exact (Below.heap_alloc _ _ _ (by simp)).trans h0
  have X2 : W0.heap[b2]? = some (.cells #[.slice none 0 0, .int .i64 0, .int .i64 0] 28 (0, 0)) := by
    rw [hW0, hb2]
    have := heap_alloc_new (w.alloc (.cells #[.int .i64 v.rows, .int .i64 v.cols, str v.left, str v.right, str v.ghost, str v.text, .int .i64 v.at_] 30)) (.cells #[.slice none 0 0, .int .i64 0, .int .i64 0] 28)
    rwa [World.size_alloc] at this
  have B0 : Below w.heap.size w W0 := by rw [hW0]; exact ((Below.refl _ w).alloc (Nat.le_refl _) _).alloc (by simp) _
  rw [← hW0, ← hb2, ← hb1]
  have H2 := Lib.hid hb2
  clear hW0 hb1 hb2
  refine (DR.out W0 (hU.later B0)).mono ?_
  rintro e w1 ⟨vv, rs, rfl, R1, D1⟩
  have V1 : ViewAt w1 b1 v := (D1.block _ (lt_of_heap V0)).trans V0
  have Y2 := (D1.block _ (lt_of_heap X2)).trans X2
  have B1 : Below w.heap.size w w1 := B0.trans (D1.mono B0.size)
  have R1 := Lib.hid (show RowsAt w1 w.heap.size v.c v.drawn vv rs from ⟨R1.out.mono B0.size, R1.rl, fun k r l a b => by obtain ⟨x, y, z⟩ := R1.rows k r l a b; exact ⟨x, Nat.le_trans B0.size y, z⟩, R1.nd⟩)
  clear V0 X2 B0 D1 DR
  obtain ⟨v0, v1, -, -, -, -, -⟩ := V1.cells
  go_wp2_with fail
  refine (NW.out _).mono ?_
  rintro e w2 ⟨tb, A, cp, rfl, -, T2, D2⟩
  go_wp2_with fail
  refine (Size_calls T2).mono ?_
  rintro e w3 ⟨rfl, D3⟩
  have D3 := D2.trans (D3.mono D2.size)
  have R3 := Lib.hid (R1.out.later D3)
  have X2 := (D3.block _ (lt_of_heap Y2)).trans Y2
  have B3 : Below w.heap.size w w3 := B1.trans (D3.mono B1.size)
  have hlt := v.cur_lt
  have hn := v.n_range
  obtain ⟨n, hnn⟩ : ∃ n, n = clampN v.rows 60 := ⟨_, rfl⟩
  have hvn : v.n = n := by rw [hnn]; rfl
  obtain ⟨p1, hp1⟩ : ∃ p, p = v.cursor.1 := ⟨_, rfl⟩
  obtain ⟨p2, hp2⟩ : ∃ p, p = v.cursor.2 := ⟨_, rfl⟩
  obtain ⟨len, hlen⟩ : ∃ l, l = v.drawn.length := ⟨_, rfl⟩
  have hdl : len ≤ 2600 := by rw [hlen]; exact v.drawn_few
  obtain ⟨Ax, cx, hvx, hcx, -, -, -⟩ := R3.out.out.rd
  rw [← hlen] at hvx hcx
  have hAx : ∃ g o, Ax = some ⟨g, o, none⟩ := by
    rcases R3.out.out.2 with ⟨_, h⟩ | ⟨g, o, c', cur, h, _⟩
    · omega
    · rw [hvx] at h; injection h with h _ _; exact ⟨g, o, h⟩
  obtain ⟨g, o, rfl⟩ := hAx
  subst hvx
  rw [← hp1, ← hlen] at hlt
  rw [hvn] at hn
  obtain ⟨tp, htp⟩ : ∃ t, t = p1 + 1 - n := ⟨_, rfl⟩
  have q1 : IntKind.i64.wrap ((p1 : Int) - (n : Int)) = (p1 : Int) - (n : Int) := IntWalk.i64_in _ (by omega)
  have q2 : IntKind.i64.wrap ((p1 : Int) - (n : Int) + 1) = (p1 : Int) - (n : Int) + 1 := IntWalk.i64_in _ (by omega)
  have q3 : Value.int .i64 (max ((p1 : Int) - (n : Int) + 1) 0) = n64 tp := by congr 1; omega
  rw [← hnn, ← hp1, ← hp2]
  have HP1 := Lib.hid hp1
  have HP2 := Lib.hid hp2
  have HL := Lib.hid hlen
  have HVN := Lib.hid hvn
  have HTP := Lib.hid htp
  have Q3 := Lib.hid q3
  clear hp1 hp2 hlen hvn hnn htp q3 v0 v1 V1 Y2 B1 R1 D2 D3 T2 NW hU hv
  go_upto_region 4 with fail
  rw [Q3.out]
  obtain ⟨m, hm⟩ : ∃ m, m = min len (tp + n) := ⟨_, rfl⟩
  have r1 : tp ≤ p1 := by rw [HTP.out]; omega
  have r2 : tp < m := by omega
  have r3 : m ≤ len := by omega
  have r4 : min (len : Int) ((tp : Int) + (n : Int)) = (m : Int) := by omega
  have r5 : IntKind.i64.wrap ((tp : Int) + (n : Int)) = (tp : Int) + (n : Int) := IntWalk.i64_in _ (by omega)
  have r6 : IntKind.i64.wrap ((p1 : Int) - (tp : Int)) = (p1 : Int) - (tp : Int) := IntWalk.i64_in _ (by omega)
  have r7 : ¬ cx = tp := by omega
  have r8 : (m : Int) ≤ (cx : Int) := by omega
  have r9 : (tp : Int) ≤ (m : Int) := by omega
  have r10 : m ≤ cx := by omega
  have r11 : tp ≤ m := by omega
  have hcx2 : cx ≤ maxLen := by
    obtain ⟨A', c', hv, _, h, _⟩ := R3.out.out.rd
    injection hv with _ _ h3
    omega
  have X2' := Lib.hid X2
  have HM := Lib.hid hm
  obtain ⟨k0, k1, k2, f0, f1, f2⟩ := box_cells X2
  clear hm X2 q1 q2 R1
  go_wp2_with fail
  have g0 := heap_setCell_same _ b2 0 _ _ (.slice (some ⟨g, o + tp, none⟩) (m - tp) (cx - tp)) X2'.out
  have g1 := heap_setCell_same _ b2 1 _ _ (.int .i64 ((p1 : Int) - (tp : Int))) g0
  have g2 := heap_setCell_same _ b2 2 _ _ (.int .i64 (p2 : Int)) g1
  have hb2 : w.heap.size ≤ b2 := by rw [H2.out]; omega
  have hR := (((R3.out.setCell (i := 0) X2'.out ns_frame (.slice (some ⟨g, o + tp, none⟩) (m - tp) (cx - tp))).setCell (i := 1) g0 ns_frame (.int .i64 ((p1 : Int) - (tp : Int)))).setCell (i := 2) g1 ns_frame (.int .i64 (p2 : Int)))
  rw [HL.out] at hR
  have hS := hR.sub (lo := tp) (hi := m) r2 (by rw [← HL.out]; exact r3)
  refine bodyPost_ret (results_cell1 rfl rfl (load_frame g2)) rfl ⟨.slice (some ⟨g, o + tp, none⟩) (m - tp) (cx - tp), (rs.drop tp).take (m - tp), ?_, ?_, ((B3.setCell (p := ⟨b2, 0, none⟩) hb2 _).setCell (p := ⟨b2, 1, none⟩) hb2 _).setCell (p := ⟨b2, 2, none⟩) hb2 _⟩
  · have e1 : v.of.row = p1 - tp := by unfold ViewT.of ViewT.top; rw [← HP1.out, HVN.out, ← HTP.out]
    have e2 : v.of.col = p2 := by unfold ViewT.of; rw [← HP2.out]
    have e4 : Value.int .i64 ((p1 : Int) - (tp : Int)) = n64 (p1 - tp) := by congr 1; omega
    unfold frV
    rw [e1, e2, e4]
  · have e3 : v.of.rows = (v.drawn.drop tp).take (m - tp) := by
      unfold ViewT.of ViewT.top
      rw [← HP1.out, HVN.out, ← HTP.out, HM.out, HL.out, take_min]
    rw [e3]
    exact hS
set_option maxHeartbeats 4000000 in
set_option maxRecDepth 100000 in
theorem Right_calls18 (v : ViewT) (hv : v.small) (w : World) (hU : U8 w) :
    Calls Tryd.prog 12 #[v.val] w fun e w' => e = .returned (.bool v.isR) ∧ Below w.heap.size w w' := by
  have DR := Lib.hid (fun W hW => drawn_calls v hv W hW)
  unfold ViewT.val at DR ⊢
  go_enter Tryd.func12, Tryd.ntmps12
  go_wp2_with fail
  have B0 : Below w.heap.size w (w.alloc (.cells #[.int .i64 v.rows, .int .i64 v.cols, str v.left, str v.right, str v.ghost, str v.text, .int .i64 v.at_] 30)) := (Below.refl _ w).alloc (Nat.le_refl _) _
  refine (DR.out _ (hU.later B0)).mono ?_
  rintro e w1 ⟨vv, rs, rfl, R1, D1⟩
  go_wp2_with fail
  go_ret
  exact ⟨rfl, B0.trans (D1.mono B0.size)⟩
end Go.Proofs.YtfgjhfmgacopoaaDoor
