import Derived.Test.YtfegchonclhjjaaWe4
import Derived.Test.YtfegchonclhjjaaWe5
import Derived.Test.YtfegchonclhjjaaSr4
namespace Go.Proofs.Ytfegchonclhjjaa
open Go.RowKit Go.Shelf
attribute [local go_sem] Oper.semAt_some
def sgF : Nat → Bs → List Bs
  | 0, _ => []
  | n + 1, l => if l = [] then [] else l.take (dec l).2 :: sgF n (l.drop (dec l).2)
theorem sgF_eq : ∀ (n : Nat) (l : Bs), l.length ≤ n → sgF n l = sg l := by
  intro n
  induction n with
  | zero => intro l h; have : l = [] := List.eq_nil_of_length_eq_zero (by omega); subst this; rw [sg_nil]; rfl
  | succ n ih =>
    intro l h
    by_cases h0 : l = []
    · subst h0; rw [sg_nil]; rfl
    · have := dec_pos l
      rw [sg_cons h0, sgF, if_neg h0, ih _ (by simp; omega)]
theorem cuts_by {l : Bs} {cs : List Bs} (h : cutP (sgF l.length l) = cs) : cuts l = cs := by
  unfold cuts; rw [← sgF_eq _ l (Nat.le_refl _)]; exact h
def tx1 : Bs := [0x65, 0xcc, 0x81, 0x78, 0xe4, 0xb8, 0xad]
def tx2 : Bs := [0x65, 0xcc, 0x81, 0x78]
def tx3 : Bs := [0x61, 0x62, 0x63]
set_option maxRecDepth 100000 in
theorem cuts1 : cuts tx1 = [[0x65, 0xcc, 0x81], [0x78], [0xe4, 0xb8, 0xad]] := cuts_by (by decide)
set_option maxRecDepth 100000 in
theorem cuts2 : cuts tx2 = [[0x65, 0xcc, 0x81], [0x78]] := cuts_by (by decide)
set_option maxRecDepth 100000 in
theorem cuts3 : cuts tx3 = [[0x61], [0x62], [0x63]] := cuts_by (by decide)
set_option maxRecDepth 100000 in
theorem wid3 : wid [0xe4, 0xb8, 0xad] = 2 := by decide
set_option maxRecDepth 100000 in
theorem sum1 : wsum (cuts tx1) = 4 := by rw [cuts1]; decide
set_option maxRecDepth 100000 in
theorem show1 : shown [0xcc, 0x81] = [0xef, 0xbf, 0xbd] := by decide
theorem of97 : wof 97 = 1 := by decide
theorem ctl7 : ctl 7 = true := by decide
set_option maxRecDepth 100000 in
set_option maxHeartbeats 2000000 in
theorem alive_calls (w : World) :
    Calls Try.prog 10 #[] w fun e w' => e = .returned (.bool true) ∧ Below w.heap.size w w' := by
  refine (callsIn_wide (n := 9)).1 ?_
  refine callsIn_of_wp_marks Try.func10 rfl trivial ?_ rfl
  simp only [Try.ntmps10, List.size_toArray, List.length_nil, Nat.reduceSub, Array.replicate_succ, Array.replicate_zero, List.push_toArray, List.append_toArray, List.nil_append, List.cons_append]
  gi_wp2_with (first
    | (refine ⟨trivial, ?_⟩; gi_at_call 15; refine (callsIn_wide.2 (Cut_calls tx1 (by decide) _ (by rfl) w)).mono ?_; rintro e w1 ⟨v1, rfl, hrow1, hb1⟩; rw [cuts1, show (List.length [[0x65, 0xcc, 0x81], [0x78], [0xe4, 0xb8, (0xad : UInt8)]]) = 3 from rfl] at hrow1; obtain ⟨A1, c1, rfl, hn1, hm1, hrd1, hA1⟩ := hrow1.rd)
    | (refine ⟨trivial, ?_⟩; gi_at_call 16; refine (callsIn_wide.2 (Bounds_calls tx2 (by decide) _ (by rfl) w1)).mono ?_; rintro e w2 ⟨v2, rfl, hrow2, hb2⟩; rw [cuts2, show bnds 0 [[0x65, 0xcc, 0x81], [0x78]] = [0, 3, 4] from rfl, show (List.length [0, 3, 4]) = 3 from rfl] at hrow2; obtain ⟨A2, c2, rfl, hn2, hm2, hrd2, hA2⟩ := hrow2.rd)
    | (refine ⟨trivial, ?_⟩; gi_at_call 26; refine (callsIn_wide.2 (Each_calls _ _)).mono ?_; rintro e w' ⟨rfl, rfl⟩))
  obtain ⟨g1, o1, rfl, hc1⟩ := hrd1.at0 (by simp)
  obtain ⟨g2, o2, rfl, hc2⟩ := hrd2.at0 (by simp)
  have hg1 := (hA1 _ rfl).2
  have hg2 := (hA2 _ rfl).2
  have hca := hc1 0 _ rfl
  have hcb := hc1 2 _ rfl
  have hcc := hc2 1 _ rfl
  clear hc1 hc2 hrow1 hrow2 hrd1 hrd2 hA1 hA2
  have hnil : ∀ (Bn : Nat) (W : World), (binOp .eql 35 (.func (.func 36) #[] #[.pointer (some ⟨Bn, 0, none⟩)]) .nilFunc).run Try.prog W = .ok (.bool false) W := fun Bn W => by kernel_rfl
  gi_wp2
  have bO := Boxed.new w2 3 (.int .i64 0)
  have bN := Boxed.new (w2.alloc (.cells #[.int .i64 0] 3)) 9 (.string ⟨#[97, 98, 99]⟩)
  rw [World.size_alloc] at bN
  have hB0 : Below w2.heap.size w2 ((w2.alloc (.cells #[.int .i64 0] 3)).alloc (.cells #[.string ⟨#[97, 98, 99]⟩] 9)) := ((Below.refl _ w2).alloc (Nat.le_refl _) _).alloc (by simp) _
  obtain ⟨w0, hw0⟩ : ∃ W0, ((w2.alloc (.cells #[.int .i64 0] 3)).alloc (.cells #[.string ⟨#[97, 98, 99]⟩] 9)) = W0 := ⟨_, rfl⟩
  have hsz0 : w0.heap.size = w2.heap.size + 1 + 1 := by rw [← hw0]; simp
  have bO0 : Boxed w0 w2.heap.size 3 (.int .i64 0) := by rw [← hw0]; exact bO.alloc _
  rw [hw0] at hB0 bN ⊢
  clear hw0 bO
  refine wpIn_rangeFunc_ownG rfl (by omega) (gf := 36) (lb := #[.pointer (some ⟨w2.heap.size + 1, 0, none⟩)]) rfl trivial (enters_of Try.func36 (by kernel_rfl) rfl)
    (each_stops (9 - 1) (by omega) tx3 (by decide) (w2.heap.size + 1) w0 _ rfl bN) KpE.t (KpE.b (by omega)) (Below.refl _ _) (fun _ => rfl)
    (fun (pre : List (Cl tx3.length)) W => Boxed W w2.heap.size 3 (.int .i64 pre.length) ∧ Below w2.heap.size w0 W)
    (fun _ _ _ => False)
    (OwnFrom.and (Own.from (fun s A B row hs hg hr => hs.kept hg (fun e => by obtain ⟨o, ho, hc⟩ := hr _ e.symm; unfold Boxed at hs; rw [hs] at ho; cases ho; cases hc)) _) (ownFrom_below (by omega) (by omega)))
    (fun _ _ _ _ _ hs _ _ => hs)
    ⟨bO0, Below.refl _ _⟩
    (fun x : Cl tx3.length => { tmps := #[.bool false, .slice (some ⟨g1, o1, none⟩) 3 c1, .slice (some ⟨g2, o2, none⟩) 3 c2, .pointer (some ⟨w2.heap.size, 0, none⟩), .func (.func 36) #[] #[.pointer (some ⟨w2.heap.size + 1, 0, none⟩)], .slice (some ⟨g1, o1, none⟩) 3 c1, .slice (some ⟨g2, o2, none⟩) 3 c2, .func (.func 36) #[] #[.pointer (some ⟨w2.heap.size + 1, 0, none⟩)], .func (.func 36) #[] #[.pointer (some ⟨w2.heap.size + 1, 0, none⟩)], .bool false, .func (.func 36) #[] #[.pointer (some ⟨w2.heap.size + 1, 0, none⟩)], n64 x.1.1, str x.1.2] ++ Array.replicate (Try.f10.ntmps - 13) undef, defers := [] }) ?assign ?body ?done ?stop
  case assign =>
    intro yl x W K hK
    unfold encs
    simp only [Try.ntmps10, Nat.reduceSub, Array.replicate_succ, Array.replicate_zero, List.push_toArray, List.append_toArray, List.nil_append, List.cons_append] at hK
    gi_wp2
    simpa using hK
  case body =>
    rintro yl pre x W ⟨hv, hB⟩ hlt
    have hc := hv.cell
    have hf := hv.frozen
    have h3 : (cuts tx3).length = 3 := by rw [cuts3]; rfl
    have hi1 : (pre.length : Int) + 1 ≤ 9223372036854775807 := by omega
    simp only [Try.ntmps10, Nat.reduceSub, Array.replicate_succ, Array.replicate_zero, List.push_toArray, List.append_toArray, List.nil_append, List.cons_append]
    gi_wp2
    have hk := (KeepsOthers.setCell W ⟨w2.heap.size, 0, none⟩ (.int .i64 (pre.length + 1)))
    refine ⟨hk.from _, ⟨hk.walks, ?_⟩, ?_, hB.setCell (p := ⟨w2.heap.size, 0, none⟩) (Nat.le_refl _) _⟩
    · exact Below.heap_setCell _ _ _ _ (by dsimp only; omega)
    · have := hv.set (.int .i64 (pre.length + 1))
      simpa using this
  case done =>
    rintro D ys W hD hys ⟨hv, hB⟩ hK
    have hc := hv.cell
    have hyl : ys.length = 3 := by
      have := congrArg List.length hys
      rw [ats_len, cuts3] at this
      simpa [val] using this
    rw [hyl] at hc
    have B2 : Below w2.heap.size w2 W := hB0.trans hB
    have hs2 : w2.heap.size + 1 + 1 ≤ W.heap.size := by have := hB.size; omega
    have hs1 := hb2.size
    have dca : W.cell? ⟨g1, o1, none⟩ = some (str [0x65, 0xcc, 0x81]) := by
      rw [B2.cell (p := ⟨g1, o1, none⟩) (by dsimp only; omega), hb2.cell (p := ⟨g1, o1, none⟩) hg1]; exact hca
    have dcb : W.cell? ⟨g1, o1 + 2, none⟩ = some (str [0xe4, 0xb8, 0xad]) := by
      rw [B2.cell (p := ⟨g1, o1 + 2, none⟩) (by dsimp only; omega), hb2.cell (p := ⟨g1, o1 + 2, none⟩) hg1]; exact hcb
    have dcc : W.cell? ⟨g2, o2 + 1, none⟩ = some (n64 3) := by
      rw [B2.cell (p := ⟨g2, o2 + 1, none⟩) (by dsimp only; omega)]; exact hcc
    clear hca hcb hcc
    gi_wp2_with (first
      | (refine ⟨trivial, ?_⟩; gi_at_call 21; refine (callsIn_wide.2 (Wide_calls [0xe4, 0xb8, 0xad] (by decide) _ (by rfl) W)).mono ?_; rintro e w3 ⟨rfl, hb3⟩; rw [wid3]; have hcc3 := (hb3.cell (p := ⟨g2, o2 + 1, none⟩) (by dsimp only; omega)).trans dcc)
      | (refine ⟨trivial, ?_⟩; gi_at_call 24; refine (callsIn_wide.2 (Sum_calls tx1 (by decide) _ (by rfl) w3)).mono ?_; rintro e w4 ⟨rfl, hb4⟩; rw [sum1]; have H4 := hb3.trans (hb4.mono hb3.size))
      | (refine ⟨trivial, ?_⟩; gi_at_call 20; refine (callsIn_wide.2 (Show_calls [0xcc, 0x81] (by decide) _ (by rfl) w4)).mono ?_; rintro e w5 ⟨rfl, hb5⟩; rw [show1]; have H5 := H4.trans (hb5.mono H4.size))
      | (refine ⟨trivial, ?_⟩; gi_at_call 11; refine (callsIn_wide.2 (Of_calls 97 w5)).mono ?_; rintro e w6 ⟨rfl, hb6⟩; rw [of97]; have H6 := H5.trans (hb6.mono H5.size))
      | (refine ⟨trivial, ?_⟩; gi_at_call 13; refine (callsIn_wide.2 (Control_calls 7 w6)).mono ?_; rintro e w7 ⟨rfl, hb7⟩; rw [ctl7]; have H7 := H6.trans (hb7.mono H6.size); have hc7 := (H7.cell (p := ⟨w2.heap.size, 0, none⟩) (by dsimp only; omega)).trans hc))
    have hK7 : w7.heap[D]? = some (.deferred (some [])) := (H7.block D (lt_of_heap hK)).trans hK
    have e1 := hb1.size
    have e2 := B2.size
    have e7 := H7.size
    have BB : Below w.heap.size w w7 := (((hb1.trans (hb2.mono e1)).trans (B2.mono (Nat.le_trans e1 hs1))).trans (H7.mono (by omega)))
    refine ⟨by simp, .inl ⟨_, _, rfl, run_takeDeferred hK7, ?_⟩⟩
    exact ⟨_, results_tmp rfl _ _ _, rfl, BB.trans (belowK_b (w := w) (Nat.le_refl _) w7 D _ _ (by omega) hK7 rfl rfl)⟩
  case stop =>
    rintro D c pre W _ _ h _
    exact h.elim
end Go.Proofs.Ytfegchonclhjjaa
