import Derived.Test.YtfegchonclhjjaaWe3
import Derived.Test.YtfegchonclhjjaaWf
namespace Go.Proofs.Ytfegchonclhjjaa
open Go.RowKit Go.Shelf
attribute [local go_sem] Oper.semAt_some
theorem keepsOthers_of_below {W w1 : World} (h : Below W.heap.size W w1) : KeepsOthers W w1 := ⟨h.size, fun k _ hk _ => (h.block k (lt_of_heap hk)).trans hk⟩
def wsum (cs : List Bs) : Int := (cs.map wid).sum
theorem wid_le (c : Bs) : 0 ≤ wid c ∧ wid c ≤ 2 := by
  unfold wid
  split
  · omega
  · rcases wof_cases ((dec c).1 : Int) with e | e | e <;> rw [e] <;> omega
theorem wsum_le (cs : List Bs) : 0 ≤ wsum cs ∧ wsum cs ≤ 2 * (cs.length : Int) := by
  induction cs with
  | nil => simp [wsum]
  | cons c cs ih =>
    have := wid_le c
    unfold wsum at ih ⊢
    rw [List.map_cons, List.sum_cons, List.length_cons]
    omega
theorem wsum_snoc (cs : List Bs) (c : Bs) : wsum (cs ++ [c]) = wsum cs + wid c := by simp [wsum]
def cls {L : Nat} (pre : List (Cl L)) : List Bs := pre.map (·.1.2)
theorem cls_val {L : Nat} {ys : List (Cl L)} {k : Nat} {cs : List Bs} (h : val ys = ats k cs) : cls ys = cs := by
  have h2 := congrArg (List.map (fun x : Nat × Bs => x.2)) h
  rw [ats_snd] at h2
  rw [← h2]; simp [val, cls]
set_option maxRecDepth 100000 in
set_option maxHeartbeats 2000000 in
theorem Sum_calls (l : Bs) (hl : l.length ≤ 4294967296) (s : ByteArray) (hs : s = ⟨l.toArray⟩) (w : World) :
    Calls Try.prog 24 #[.string s] w fun e w' => e = .returned (.int .i64 (wsum (cuts l))) ∧ Below w.heap.size w w' := by
  have hcl := cuts_len l
  have HS := Lib.hid hs
  clear hs
  refine (callsIn_wide (n := 9)).1 ?_
  refine callsIn_of_wp_marks Try.func24 rfl trivial ?_ rfl
  simp only [Try.ntmps24, List.size_toArray, List.length_cons, List.length_nil, Nat.reduceAdd, Nat.reduceSub, Array.replicate_succ, Array.replicate_zero, List.push_toArray, List.append_toArray, List.nil_append, List.cons_append]
  gi_wp2_with (refine ⟨trivial, ?_⟩; gi_at_call 26; refine (callsIn_wide.2 (Each_calls _ _)).mono ?_; rintro e w' ⟨rfl, rfl⟩)
  have bO := Boxed.new w 3 (.int .i64 0)
  have bN := Boxed.new (w.alloc (.cells #[.int .i64 0] 3)) 9 (.string s)
  rw [World.size_alloc] at bN
  have hB0 : Below w.heap.size w ((w.alloc (.cells #[.int .i64 0] 3)).alloc (.cells #[.string s] 9)) := ((Below.refl _ w).alloc (Nat.le_refl _) _).alloc (by simp) _
  obtain ⟨w0, hw0⟩ : ∃ W0, ((w.alloc (.cells #[.int .i64 0] 3)).alloc (.cells #[.string s] 9)) = W0 := ⟨_, rfl⟩
  have hsz0 : w0.heap.size = w.heap.size + 1 + 1 := by rw [← hw0]; simp
  have bO0 : Boxed w0 w.heap.size 3 (.int .i64 0) := by rw [← hw0]; exact bO.alloc _
  rw [hw0] at hB0 bN ⊢
  clear hw0 bO
  refine wpIn_rangeFunc_ownG rfl (by omega) (gf := 36) (lb := #[.pointer (some ⟨w.heap.size + 1, 0, none⟩)]) rfl trivial (enters_of Try.func36 (by kernel_rfl) rfl)
    (each_stops (9 - 1) (by omega) l hl (w.heap.size + 1) w0 s HS.out bN) KpE.t (KpE.b (by omega)) (Below.refl _ _) (fun _ => rfl)
    (fun (pre : List (Cl l.length)) W => Boxed W w.heap.size 3 (.int .i64 (wsum (cls pre))) ∧ Below w.heap.size w0 W)
    (fun _ _ _ => False)
    (OwnFrom.and (Own.from (fun s A B row hs hg hr => hs.kept hg (fun e => by obtain ⟨o, ho, hc⟩ := hr _ e.symm; unfold Boxed at hs; rw [hs] at ho; cases ho; cases hc)) _) (ownFrom_below (by omega) (by omega)))
    (fun _ _ _ _ _ hs _ _ => hs)
    ⟨bO0, Below.refl _ _⟩
    (fun x : Cl l.length => { tmps := #[.string s, undef, .int .i64 0, .pointer (some ⟨w.heap.size, 0, none⟩), undef, str x.1.2, .string s, .func (.func 36) #[] #[.pointer (some ⟨w.heap.size + 1, 0, none⟩)], n64 x.1.1, str x.1.2, undef, undef, undef, undef, undef], defers := [] }) ?assign ?body ?done ?stop
  case assign =>
    intro yl x W K hK
    unfold encs
    gi_wp2
    exact hK
  case body =>
    rintro yl pre x W ⟨hv, hB⟩ hlt
    have hc := hv.cell
    have hf := hv.frozen
    have hR : w.heap.size + 1 + 1 ≤ W.heap.size := by have := hB.size; omega
    have hx := x.2
    have hws := wsum_le (cls pre)
    have hpl : (cls pre).length = pre.length := by simp [cls]
    have hwi := wid_le x.1.2
    have hsn : wsum (cls (pre ++ [x])) = wsum (cls pre) + wid x.1.2 := by rw [← wsum_snoc]; simp [cls]
    have HX := Lib.hid hx
    have HSN := Lib.hid hsn
    clear hsn hx
    generalize wsum (cls pre) = m at *
    obtain ⟨cs, hcs⟩ : ∃ cs : ByteArray, cs = ⟨x.1.2.toArray⟩ := ⟨_, rfl⟩
    have HC := Lib.hid hcs
    rw [show str x.1.2 = .string cs from by rw [hcs]]
    clear hcs
    obtain ⟨wd, hwd⟩ : ∃ d, d = wid x.1.2 := ⟨_, rfl⟩
    rw [← hwd] at hwi
    have HWD := Lib.hid hwd
    clear hwd
    have hsum : IntKind.i64.wrap (m + wd) = m + wd := IntWalk.i64_in _ (by omega)
    have hfo : Try.prog.follows Departure.mixedOrders = true := by kernel_rfl
    gi_wp2
    gi_region_with_o (refine ⟨trivial, ?_⟩; gi_at_call 21; refine (CallsIn.inRound yl (callsIn_wide.2 (Wide_calls x.1.2 (by have := HX.out; omega) cs HC.out _))).mono ?_; rintro e w1 ⟨rfl, hb1⟩; rw [← HWD.out]; have hv1 : Boxed w1 w.heap.size 3 (.int .i64 m) := (hb1.block _ hv.lt).trans hv; have hc1 := hv1.cell; have hf1 := hv1.frozen)
    all_goals gi_wp2
    all_goals (try go_bits)
    all_goals
      have hbW : Below W.heap.size W w1 := ⟨hb1.os, hb1.tape, hb1.output, hb1.size, hb1.block⟩
      have hk := (keepsOthers_of_below hbW).trans (KeepsOthers.setCell w1 ⟨w.heap.size, 0, none⟩ (.int .i64 (m + wd)))
      refine ⟨hk.from _, ⟨hk.walks, ?_⟩, ?_, (hB.trans (hbW.mono (by omega))).setCell (p := ⟨w.heap.size, 0, none⟩) (Nat.le_refl _) _⟩
      · exact (Below.heap_setCell _ _ _ _ (by dsimp only; omega)).trans (hbW.block _ (by omega))
      · rw [HSN.out, ← HWD.out]; exact hv1.set _
  case done =>
    rintro D ys W hD hys ⟨hv, hB⟩ hK
    have hc := hv.cell
    gi_wp2
    refine ⟨by simp, .inl ⟨_, _, rfl, run_takeDeferred hK, ?_⟩⟩
    rw [cls_val hys]
    refine ⟨_, results_tmp rfl _ _ _, rfl, ?_⟩
    exact (hB0.trans hB).trans (belowK_b (w := w) (Nat.le_refl _) W D _ _ (by omega) hK rfl rfl)
  case stop =>
    rintro D c pre W _ _ h _
    exact h.elim
end Go.Proofs.Ytfegchonclhjjaa
