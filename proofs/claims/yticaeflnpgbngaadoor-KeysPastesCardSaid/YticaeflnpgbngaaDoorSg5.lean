import Derived.Test.YticaeflnpgbngaaDoorSg4
namespace Go.Proofs.YticaeflnpgbngaaDoor
open Go.RowKit
def lenAt (w : World) (a : Addr) : Nat := match w.cell? a with | some (.slice _ n _) => n | _ => 0
theorem lenAt_of {w : World} {a : Addr} {A : Option Addr} {n c : Nat} (h : w.cell? a = some (.slice A n c)) : lenAt w a = n := by simp [lenAt, h]
def PutInv (w : World) (g off : Nat) (cs : Array Value) (T : TypeId) (v : Value) (B : Nat) (l1 : Bs) (u5 : Value) (wr : World) : Prop :=
  ∃ (xs : List Nat) (lk : Bs) (A : Option Addr) (c : Nat), Row wr w.heap.size 21 1 u5 xs.length (xs.map i32) ∧ wr.heap[g]? = some (.cells (cs.setIfInBounds off (.slice A lk.length c)) T (0, 0)) ∧
    Row wr B 5 1 (.slice A lk.length c) lk.length (lk.map byt) ∧ Fr (fun k => k = g ∨ v.ownBlock = some k) w wr ∧
    (∀ k, (Value.slice A lk.length c).ownBlock = some k → (v.ownBlock = some k ∨ w.heap.size ≤ k) ∧ k ≠ g ∧ u5.ownBlock ≠ some k) ∧
    xs ++ (drain lk).1 = (drain l1).1 ∧ (drain lk).2 = (drain l1).2 ∧ xs.length + lk.length ≤ l1.length
set_option maxHeartbeats 800000 in
set_option maxRecDepth 100000 in
/-- (*sign.Feed).Put. -/
theorem Put_calls (g off : Nat) (cs : Array Value) (T : TypeId) (v : Value) (l : Bs) (x : UInt8) (B : Nat) (w : World) (hg : w.heap[g]? = some (.cells cs T (0, 0))) (hv : cs[off]? = some v)
    (hrow : Row w B 5 1 v l.length (l.map byt)) (hne : v.ownBlock ≠ some g) (hB : B ≤ w.heap.size) (hl : l.length + 1 ≤ 4294967296) :
    Calls Tryd.prog 54 #[.pointer (some ⟨g, off, none⟩), byt x] w fun e w' => ∃ r v', e = .returned r ∧
      Row w' w.heap.size 21 1 r (drain (l ++ [x])).1.length ((drain (l ++ [x])).1.map i32) ∧ w'.heap[g]? = some (.cells (cs.setIfInBounds off v') T (0, 0)) ∧
      Row w' B 5 1 v' (drain (l ++ [x])).2.length ((drain (l ++ [x])).2.map byt) ∧ Fr (fun k => k = g ∨ v.ownBlock = some k) w w' ∧
      (∀ k, v'.ownBlock = some k → (v.ownBlock = some k ∨ w.heap.size ≤ k) ∧ k ≠ g ∧ r.ownBlock ≠ some k) := by
  have hc := row_cell hg hv
  have hgl := lt_of_heap hg
  have hoff : off < cs.size := (Array.getElem?_eq_some_iff.1 hv).1
  obtain ⟨A, c, hva, _, _, _, _⟩ := hrow.rd
  subst hva
  go_enter Tryd.func54, Tryd.ntmps54
  go_wp2_with (first | (at_builtin; refine wpList_append_row _ rfl _ _ 25 rfl B 5 1 1 _ Tryd.underlying25 Tryd.info_u8 rfl (by decide) (.slice A l.length c) _ _ rfl (hrow.alloc _) _ 1 1 [byt x] rfl rfl (Rd.new1 _ _ _) (by simp [Value.oneCell']) (by omega) (by simp only [maxLen]; omega) (by simp; omega) ?_; intro A1 c1 w1 hrow1 hg1 hb1; have hgg1 : w1.heap[g]? = some (.cells cs T (0, 0)) := (hg1.block g (by simp; omega) (fun e => hne e.symm)).trans ((Below.heap_alloc w _ g hgl).trans hg); have hcc1 := row_cell hgg1 hv; have hff1 := frozen_of_row w1 g off cs T hgg1))
  go_loopw [5] (fun u5 wr => PutInv w g off cs T (.slice A l.length c) B (l ++ [x]) u5 wr) (fun _ wr => lenAt wr ⟨g, off, none⟩)
  case atStart =>
    refine ⟨[], l ++ [x], A1, c1, Row.nil _ _ _ _, ?_, ?_, ?_, ?_, by simp, rfl, by simp⟩
    · rw [List.length_append]; exact heap_setCell_same _ _ _ _ _ _ hgg1
    · have : Row w1 B 5 1 (.slice A1 (l ++ [x]).length c1) (l ++ [x]).length ((l ++ [x]).map byt) := by simpa using hrow1
      refine this.at_ fun k hk => Below.heap_setCell _ _ _ _ ?_
      dsimp only
      rintro rfl
      rw [ownB] at hk hb1
      rcases hb1 with h | h
      · exact hne (h.symm.trans hk)
      · rw [h] at hk
        simp at hk; omega
    · refine ((Fr.alloc w _).trans (Fr.of_grown hg1) ?_).trans (Fr.setCell _ _ _) ?_
      · intro i _ h; exact .inr h
      · intro i _ h; exact .inl h
    · intro k hk
      rw [ownB] at hk hb1
      rcases hb1 with h | h
      · rw [h] at hk
        exact ⟨.inl hk, fun e => hne (e ▸ hk), by simp [Value.ownBlock]⟩
      · rw [h] at hk
        simp at hk
        exact ⟨.inr (by omega), by omega, by simp [Value.ownBlock]⟩
  case round =>
    obtain ⟨xs, lk, Ak, ck, hrowo, hgk, hrowk, hfr, hown, hx1, hx2, hlen⟩ := hrel
    have HX1 := Lib.hid hx1
    have HX2 := Lib.hid hx2
    have HOWN := Lib.hid hown
    clear hx1 hx2 hown
    rw [List.length_append, List.length_singleton] at hlen
    have hcs : (cs.setIfInBounds off (.slice Ak lk.length ck))[off]? = some (.slice Ak lk.length ck) := by simp [hoff]
    have hck := row_cell hgk hcs
    obtain ⟨Ak', ck', hvk, hnk, hmk, hrdk, _⟩ := hrowk.rd
    cases hvk
    by_cases hw : whole lk = true
    · have hnx := nxt_ne (whole_ne hw)
      go_wp2_with (first
        | (go_at_call 65; refine (Whole_calls Ak ck lk wr hrdk (by omega)).mono ?_; rintro e w2 ⟨rfl, rfl⟩; rw [hw])
        | (go_at_call 66; refine (Next_calls Ak ck lk wr hrdk hnk hmk).mono ?_; rintro e w2 ⟨rfl, hb2⟩; rw [hnx]; have hrow2 := hrowo.below hb2 (Nat.le_refl _); have hgk2 := (hb2.block g (lt_of_heap hgk)).trans hgk; have hsz2 := hb2.size; have hszr := hfr.size)
        | (at_builtin; refine wpList_append_row _ rfl _ _ 48 rfl w.heap.size 21 1 4 _ Tryd.underlying48 Tryd.info_i32 rfl (by decide) u5 _ _ rfl (hrow2.alloc _) _ 1 1 [i32 (dec lk).1] rfl rfl (Rd.new1 _ _ _) (by simp [Value.oneCell']) (by omega) (by simp only [maxLen]; omega) (by simp; omega) ?_; intro A3 c3 w3 hrow3 hg3 hb3; have hgk3 := app_heap hg3 hgk2 (fun e => by have := (hrow2.lt _ e).1; omega); have hck3 := row_cell hgk3 hcs; have hff3 := frozen_of_row w3 g off _ T hgk3; have hdl := dec_le (whole_ne hw)))
      go_roundw
      case rel =>
        have hrow4 := (app_row hg3 (hrowk.below hb2 (Nat.le_refl _)) (fun k hk => (HOWN.out k hk).2.2)).from_ rfl (dec lk).2 hdl
        have hob := ownBlock_from (A := Ak) (n := lk.length) (c := ck) (k := (dec lk).2)
        generalize hA4 : (if ck = (dec lk).2 then Ak else Ak.map (fun x => x.add (dec lk).2)) = A4 at hrow4 hob ⊢
        have hd := drain_whole hw
        have hlen4 : (lk.drop (dec lk).2).length = lk.length - (dec lk).2 := by simp
        rw [← hlen4] at hrow4 hob ⊢
        refine ⟨xs ++ [(dec lk).1], lk.drop (dec lk).2, A4, ck - (dec lk).2, ?_, ?_, ?_, ?_, ?_, ?_, ?_, ?_⟩
        · have : Row w3 w.heap.size 21 1 (.slice A3 (xs.length + 1) c3) (xs ++ [(dec lk).1]).length ((xs ++ [(dec lk).1]).map i32) := by simpa using hrow3
          exact this.at_ fun k hk => Below.heap_setCell _ _ _ _ (by have := (this.lt k hk).1; dsimp only; omega)
        · have := heap_setCell_same w3 g off _ T (.slice A4 (lk.drop (dec lk).2).length (ck - (dec lk).2)) hgk3
          simpa using this
        · have : Row w3 B 5 1 (.slice A4 (lk.drop (dec lk).2).length (ck - (dec lk).2)) (lk.drop (dec lk).2).length ((lk.drop (dec lk).2).map byt) := by rw [List.map_drop]; exact hrow4
          exact this.at_ fun k hk => Below.heap_setCell _ _ _ _ (by rw [hob] at hk; exact (HOWN.out k hk).2.1)
        · refine (app_fr (hfr.trans (Fr.of_fresh (S := fun _ => False) hb2) (fun _ _ e => e.elim)) hg3 ?_).trans (Fr.setCell _ _ _) (fun i _ h => .inl h)
          intro k e hk; have := (hrow2.lt _ e).1; omega
        · intro k hk
          rw [hob] at hk
          obtain ⟨a1, a2, a3⟩ := HOWN.out k hk
          refine ⟨a1, a2, fun e => ?_⟩
          rcases hb3 with h | h
          · exact a3 (h.symm.trans e)
          · rw [h] at e
            simp at e
            have := (hrowk.lt k hk).2; omega
        · rw [← HX1.out, hd]; simp
        · rw [← HX2.out, hd]
        · have := dec_pos lk
          simp; omega
      case measure =>
        have h1 := lenAt_of hck
        have h2 := lenAt_of (w := w3.setCell ⟨g, off, none⟩ (.slice (if ck = (dec lk).2 then Ak else Ak.map (fun x => x.add (dec lk).2)) (lk.length - (dec lk).2) (ck - (dec lk).2))) (a := ⟨g, off, none⟩) (World.cell?_setCell_same' _ _ _ (by rw [hck3]; rfl))
        have := dec_pos lk
        rw [h1, h2]; omega
    · go_wp2_with (first | (go_at_call 65; refine (Whole_calls Ak ck lk wr hrdk (by omega)).mono ?_; rintro e w2 ⟨rfl, rfl⟩; rw [Bool.eq_false_iff.2 hw]))
      go_ret
      have hd := drain_not (Bool.eq_false_iff.2 hw)
      have h1 := HX1.out
      have h2 := HX2.out
      rw [hd] at h1 h2
      rw [← h1, ← h2]
      exact ⟨u5, _, rfl, by simpa using hrowo, hgk, hrowk, hfr, HOWN.out⟩
end Go.Proofs.YticaeflnpgbngaaDoor
