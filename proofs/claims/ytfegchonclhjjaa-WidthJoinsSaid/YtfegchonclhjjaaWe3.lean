import Derived.Test.YtfegchonclhjjaaWe2
import Derived.Maps.AppendAt
namespace Go.Proofs.Ytfegchonclhjjaa
open Go.RowKit Go.Shelf
attribute [local go_sem] Oper.semAt_some
abbrev str (b : Bs) : Value := .string ⟨b.toArray⟩
theorem Try.info_str : (Try.prog.info? 9).map (fun i => (i.zero, i.size, i.bytes)) = some (some (.string ByteArray.empty), 1, 16) := by kernel_rfl
/-- width.Each. -/
theorem Each_calls (s : ByteArray) (w : World) : Calls Try.prog 26 #[.string s] w fun e w' => e = .returned (.func (.func 36) #[] #[.pointer (some ⟨w.heap.size, 0, none⟩)]) ∧ w' = w.alloc (.cells #[.string s] 9) := by
  go_enter Try.func26, Try.ntmps26
  go_wp2
  go_ret
  exact ⟨rfl, rfl⟩
theorem each_stops (n : Nat) (hn : 1 ≤ n) (l : Bs) (hl : l.length ≤ 4294967296) (Bx : Nat) (w : World) (s : ByteArray) (hs : s = ⟨l.toArray⟩) (hb : Boxed w Bx 9 (.string s)) :
    SeqStopsK Fence.wide n Try.prog 36 #[.pointer (some ⟨Bx, 0, none⟩)] (encs (L := l.length)) (KpE Bx) (fun xs => val xs = ats 0 (cuts l)) (fun pre => val pre <+: ats 0 (cuts l)) (cuts l).length w := by
  intro yl J Jx W hW hJ _ hY h0
  subst hs
  exact each1_in n hn l hl yl Bx J Jx W hJ hY ((hW.block Bx hb.lt).trans hb) h0
theorem Row.of_owns {w : World} {B : Nat} {e : TypeId} {sz : Nat} {v : Value} {n : Nat} {xs : List Value} (h : w.ownsRow B e sz v n xs) : Row w B e sz v n xs := by
  refine ⟨h.1, ?_⟩
  rcases h.2 with ⟨rfl, hn⟩ | ⟨g, cap, cur, rfl, hb, hg, h1, h2, h3, h4⟩
  · exact .inl ⟨rfl, hn⟩
  · exact .inr ⟨g, 0, cap, cur, rfl, hb, hg, h1, h2, by omega, by rw [List.drop_zero]; exact h4⟩
theorem keepsWalks_of {W W' : World} (h : KeepsOthers W W') : KeepsWalks W W' := ⟨h.size, fun k o hk ho => h.same k o hk (Obj.not_cells_of_walk ho)⟩
/-- 'out = append(out, ..)' where the row's blocks lie from R on, and the box at B. -/
theorem appended2 {W w1 : World} {R B : Nat} {t e : TypeId} {size : Nat} {v v' : Value} {k m : Nat} {xs ys : List Value} {tmp : Obj}
    (hv : Boxed W B t v) (hte : t ≠ e) (hrow : W.ownsRow R e size v k xs) (hR : R ≤ W.heap.size)
    (hown' : w1.ownsRow R e size v' m ys) (hgrow : (W.alloc tmp).grownBy w1 v.ownBlock) :
    Boxed w1 B t v ∧ Boxed (w1.setCell ⟨B, 0, none⟩ v') B t v' ∧ (w1.setCell ⟨B, 0, none⟩ v').ownsRow R e size v' m ys ∧ KeepsOthers W (w1.setCell ⟨B, 0, none⟩ v') ∧
      (∀ n₀, n₀ ≤ R → n₀ ≤ B → Below n₀ W (w1.setCell ⟨B, 0, none⟩ v')) ∧ (∀ j, j < R → j ≠ B → (w1.setCell ⟨B, 0, none⟩ v').heap[j]? = W.heap[j]?) := by
  have hv1 : Boxed w1 B t v := (hv.alloc tmp).kept hgrow (hv.not_row hte hrow)
  have hrb : ∀ j, v.ownBlock = some j → R ≤ j := fun j ej => by
    rcases hrow.2 with ⟨rfl, _⟩ | ⟨g, cap, cur, rfl, hb, _, _⟩
    · simp [Value.ownBlock] at ej
    · obtain rfl : g = j := by simpa [Value.ownBlock] using ej
      exact hb
  refine ⟨hv1, hv1.set v', hown'.kept (grownBy_setCell' w1 B v') (.inr (hv1.not_row hte hown').symm), ?_, ?_, ?_⟩
  · refine ((KeepsOthers.alloc W tmp).trans (KeepsOthers.of_grownBy hgrow fun j o ej hj => ?_)).trans (KeepsOthers.setCell _ _ _)
    rcases (hrow.alloc tmp).2 with ⟨rfl, _⟩ | ⟨g, cap, cur, rfl, _, hgb, _⟩
    · simp [Value.ownBlock] at ej
    · obtain rfl : g = j := by simpa [Value.ownBlock] using ej
      rw [hgb] at hj; cases hj; rfl
  · intro n₀ h1 h2
    exact (((Below.refl n₀ W).alloc (Nat.le_trans h1 hR) tmp).grown hgrow (by simp; omega) fun j ej => Nat.le_trans h1 (hrb j ej)).setCell (p := ⟨B, 0, none⟩) h2 v'
  · intro j h1 h2
    rw [Below.heap_setCell _ _ _ _ h2, hgrow.block j (by simp; omega) (fun e => by have := hrb j e.symm; omega), Below.heap_alloc _ _ _ (by omega)]
theorem val_str {L : Nat} {ys : List (Cl L)} {k : Nat} {cs : List Bs} (h : val ys = ats k cs) : ys.map (fun x => str x.1.2) = cs.map str := by
  have h2 := congrArg (List.map (fun x : Nat × Bs => x.2)) h
  rw [ats_snd] at h2
  rw [← h2]; simp [val]
set_option maxRecDepth 100000 in
set_option maxHeartbeats 2000000 in
theorem Cut_calls (l : Bs) (hl : l.length ≤ 4294967296) (s : ByteArray) (hs : s = ⟨l.toArray⟩) (w : World) :
    Calls Try.prog 15 #[.string s] w fun e w' => ∃ v, e = .returned v ∧ Row w' w.heap.size 9 1 v (cuts l).length ((cuts l).map str) ∧ Below w.heap.size w w' := by
  have hcl := cuts_len l
  have HS := Lib.hid hs
  clear hs
  refine (callsIn_wide (n := 3)).1 ?_
  obtain ⟨i0, hi, hz0, hz1, hz2⟩ := info_parts Try.info_str
  refine callsIn_of_wp_marks Try.func15 rfl trivial ?_ rfl
  simp only [Try.ntmps15, List.size_toArray, List.length_cons, List.length_nil, Nat.reduceAdd, Nat.reduceSub, Array.replicate_succ, Array.replicate_zero, List.push_toArray, List.append_toArray, List.nil_append, List.cons_append]
  gi_wp2_with (refine ⟨trivial, ?_⟩; gi_at_call 26; refine (callsIn_wide.2 (Each_calls _ _)).mono ?_; rintro e w' ⟨rfl, rfl⟩)
  have bO := Boxed.new w 27 (.slice none 0 0)
  have bN := Boxed.new (w.alloc (.cells #[.slice none 0 0] 27)) 9 (.string s)
  rw [World.size_alloc] at bN
  have hB0 : Below w.heap.size w ((w.alloc (.cells #[.slice none 0 0] 27)).alloc (.cells #[.string s] 9)) := ((Below.refl _ w).alloc (Nat.le_refl _) _).alloc (by simp) _
  obtain ⟨w0, hw0⟩ : ∃ W0, ((w.alloc (.cells #[.slice none 0 0] 27)).alloc (.cells #[.string s] 9)) = W0 := ⟨_, rfl⟩
  have hsz0 : w0.heap.size = w.heap.size + 1 + 1 := by rw [← hw0]; simp
  have bO0 : Boxed w0 w.heap.size 27 (.slice none 0 0) := by rw [← hw0]; exact bO.alloc _
  rw [hw0] at hB0 bN ⊢
  clear hw0 bO
  refine wpIn_rangeFunc_ownG rfl (by omega) (gf := 36) (lb := #[.pointer (some ⟨w.heap.size + 1, 0, none⟩)]) rfl trivial (enters_of Try.func36 (by kernel_rfl) rfl)
    (each_stops (3 - 1) (by omega) l hl (w.heap.size + 1) w0 s HS.out bN) KpE.t (KpE.b (by omega)) (Below.refl _ _) (fun _ => rfl)
    (fun (pre : List (Cl l.length)) W => (∃ v, Boxed W w.heap.size 27 v ∧ W.ownsRow (w.heap.size + 1 + 1) 9 1 v pre.length (pre.map (fun x => str x.1.2)) ∧ True) ∧ Below w.heap.size w0 W)
    (fun _ _ _ => False)
    (OwnFrom.and (Own.from (holdsRow_own (w.heap.size + 1 + 1) w.heap.size 27 9 1 (fun pre : List (Cl l.length) => pre.length) (fun pre => pre.map (fun x => str x.1.2)) (fun _ _ => True)) _) (ownFrom_below (by omega) (by omega)))
    (fun _ _ _ _ _ hs _ _ => hs)
    ⟨⟨_, bO0, World.ownsRow_nil _ _ _ _, trivial⟩, Below.refl _ _⟩
    (fun x : Cl l.length => { tmps := #[.string s, undef, .slice none 0 0, .pointer (some ⟨w.heap.size, 0, none⟩), undef, str x.1.2, .string s, .func (.func 36) #[] #[.pointer (some ⟨w.heap.size + 1, 0, none⟩)], n64 x.1.1, str x.1.2, undef, undef, undef, undef, undef], defers := [] }) ?assign ?body ?done ?stop
  case assign =>
    intro yl x W K hK
    unfold encs
    gi_wp2
    exact hK
  case body =>
    rintro yl pre x W ⟨⟨v, hv, hrow, _⟩, hB⟩ hlt
    have hc := hv.cell
    have hR : w.heap.size + 1 + 1 ≤ W.heap.size := by have := hB.size; omega
    gi_wp2_with (gi_at_builtin; refine wpListIn_append_own _ rfl _ _ 27 rfl (w.heap.size + 1 + 1) 9 i0 _ 1 16 Try.underlying27 hi hz0 hz1 hz2 rfl (by decide) _ _ _ rfl (hrow.alloc _) ⟨W.heap.size, 0, none⟩ 1 1 [str x.1.2] rfl rfl (cell_one_new _ _ _) (by simp [Value.oneCell']) (by simp only [maxLen]; omega) (by omega) (by simp; omega) ?_; intro v' w1 hown' hgrow _; obtain ⟨g', cap', rfl⟩ := ownsRow_succ hown'; obtain ⟨hv1, hv2, hr2, hk2, hb2, hf2⟩ := appended2 hv (by decide) hrow hR hown' hgrow; have hc1 := hv1.cell; have hf1 := hv1.frozen)
    exact ⟨hk2.from _, ⟨keepsWalks_of hk2, hf2 _ (by omega) (by omega)⟩, ⟨_, hv2, by simpa using hr2, trivial⟩, hB.trans (hb2 _ (by omega) (by omega))⟩
  case done =>
    rintro D ys W hD hys ⟨⟨v, hv, hrow, _⟩, hB⟩ hK
    have hc := hv.cell
    gi_wp2
    refine ⟨by simp, .inl ⟨_, _, rfl, run_takeDeferred hK, ?_⟩⟩
    have e := val_str hys
    have e2 : ys.length = (cuts l).length := by
      have := congrArg List.length hys
      rw [ats_len] at this
      simpa [val] using this
    rw [e, e2] at hrow
    refine ⟨_, results_tmp rfl _ _ _, v, rfl, (Row.of_owns (ownsRow_putObj hrow _ hK rfl)).mono (by omega), ?_⟩
    exact (hB0.trans hB).trans (belowK_b (w := w) (Nat.le_refl _) W D _ _ (by omega) hK rfl rfl)
  case stop =>
    rintro D c pre W _ _ h _
    exact h.elim
end Go.Proofs.Ytfegchonclhjjaa
