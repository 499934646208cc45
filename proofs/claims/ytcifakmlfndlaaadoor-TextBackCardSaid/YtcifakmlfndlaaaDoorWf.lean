import Derived.Test.YtcifakmlfndlaaaDoorWo
import Derived.Test.YtcifakmlfndlaaaDoorCv
import Derived.Test.YtcifakmlfndlaaaDoorKa
import Derived.Test.YtcifakmlfndlaaaDoorWc
import Derived.Test.YtcifakmlfndlaaaDoorWe
import Derived.Test.YtcifakmlfndlaaaDoorSr3
namespace Go.Proofs.YtcifakmlfndlaaaDoor
open Go.RowKit
/-- What is shown of a cluster that cannot be: bytes ef bf bd. -/
def wrongB : Bs := [0xef, 0xbf, 0xbd]
def wid (c : Bs) : Int := if c = [] then 0 else max (wof ((dec c).1 : Int)) 1
def bad (c : Bs) : Bool := wof ((dec c).1 : Int) == 0 || ctl ((dec c).1 : Int)
def shown (c : Bs) : Bs := if c = [] then [] else if bad c then wrongB else clean c
end Go.Proofs.YtcifakmlfndlaaaDoor
namespace Go.Proofs.YtcifakmlfndlaaaDoor
open Go.RowKit Go.Shelf
attribute [local go_sem] Oper.semAt_some
theorem keepsOthers_of_below {W w1 : World} (h : Below W.heap.size W w1) : KeepsOthers W w1 := ⟨h.size, fun k _ hk _ => (h.block k (lt_of_heap hk)).trans hk⟩
def wsum (cs : List Bs) : Int := (cs.map wid).sum
theorem wid_le (c : Bs) : 0 ≤ wid c ∧ wid c ≤ 2 := by
  unfold wid
  split
  · omega
  · rcases wof_cases ((dec c).1 : Int) with e | e | e <;> rw [e] <;> omega
theorem wsum_le (cs : List Bs) : 0 ≤ wsum cs ∧ wsum cs ≤ 2 * (cs.length : Int) := by
  induction cs with
  | nil => simp [wsum]
  | cons c cs ih =>
    have := wid_le c
    unfold wsum at ih ⊢
    rw [List.map_cons, List.sum_cons, List.length_cons]
    omega
theorem wsum_snoc (cs : List Bs) (c : Bs) : wsum (cs ++ [c]) = wsum cs + wid c := by simp [wsum]
def cls {L : Nat} (pre : List (Cl L)) : List Bs := pre.map (·.1.2)
theorem cls_val {L : Nat} {ys : List (Cl L)} {k : Nat} {cs : List Bs} (h : val ys = ats k cs) : cls ys = cs := by
  have h2 := congrArg (List.map (fun x : Nat × Bs => x.2)) h
  rw [ats_snd] at h2
  rw [← h2]; simp [val, cls]
end Go.Proofs.YtcifakmlfndlaaaDoor
namespace Go.Proofs.YtcifakmlfndlaaaDoor
open Go.RowKit Go.Shelf
attribute [local go_sem] Oper.semAt_some
theorem owns_ne {W : World} {R : Nat} {e : TypeId} {sz : Nat} {v : Value} {k : Nat} {xs : List Value} (h : W.ownsRow R e sz v k xs) {D : Nat} {o : Obj} (hD : W.heap[D]? = some o) (ho : o.isCells = false) : v.ownBlock ≠ some D := by
  intro ej
  rcases h.2 with ⟨rfl, _⟩ | ⟨g, cap, cur, rfl, _, hgb, _⟩
  · simp [Value.ownBlock] at ej
  · obtain rfl : g = D := by simpa [Value.ownBlock] using ej
    rw [hgb] at hD; cases hD; cases ho
theorem owns_lt {W : World} {R : Nat} {e : TypeId} {sz : Nat} {v : Value} {k : Nat} {xs : List Value} (h : W.ownsRow R e sz v k xs) {j : Nat} (ej : v.ownBlock = some j) : R ≤ j := by
  rcases h.2 with ⟨rfl, _⟩ | ⟨g, cap, cur, rfl, hb, _, _⟩
  · simp [Value.ownBlock] at ej
  · obtain rfl : g = j := by simpa [Value.ownBlock] using ej
    exact hb
theorem val_n64 {L : Nat} {ys : List (Cl L)} {k : Nat} {cs : List Bs} (h : val ys = ats k cs) : ys.map (fun x => n64 x.1.1) ++ [n64 (k + cs.flatten.length)] = (bnds k cs).map n64 := by
  rw [bnds_ats, List.map_append, ← h]; simp [val]
theorem bnds_len (k : Nat) (cs : List Bs) : (bnds k cs).length = cs.length + 1 := by
  rw [bnds_ats, List.length_append, List.length_map, ats_len]; rfl
set_option maxRecDepth 100000 in
set_option maxHeartbeats 2000000 in
theorem Bounds_calls (l : Bs) (hl : l.length ≤ 4294967296) (s : ByteArray) (hs : s = ⟨l.toArray⟩) (w : World) :
    Calls Tryd.prog 33 #[.string s] w fun e w' => ∃ v, e = .returned v ∧ Row w' w.heap.size 3 1 v (bnds 0 (cuts l)).length ((bnds 0 (cuts l)).map n64) ∧ Below w.heap.size w w' := by
  have hcl := cuts_len l
  have HS := Lib.hid hs
  clear hs
  refine (callsIn_wide (n := 3)).1 ?_
  obtain ⟨i0, hi, hz0, hz1, hz2⟩ := info_parts Tryd.info_int
  refine callsIn_of_wp_marks Tryd.func33 rfl trivial ?_ rfl
  simp only [Tryd.ntmps33, List.size_toArray, List.length_cons, List.length_nil, Nat.reduceAdd, Nat.reduceSub, Array.replicate_succ, Array.replicate_zero, List.push_toArray, List.append_toArray, List.nil_append, List.cons_append]
  gi_wp2_with (refine ⟨trivial, ?_⟩; gi_at_call 50; refine (callsIn_wide.2 (Each_calls _ _)).mono ?_; rintro e w' ⟨rfl, rfl⟩)
  have bO := Boxed.new w 53 (.slice none 0 0)
  have bN := Boxed.new (w.alloc (.cells #[.slice none 0 0] 53)) 9 (.string s)
  rw [World.size_alloc] at bN
  have hB0 : Below w.heap.size w ((w.alloc (.cells #[.slice none 0 0] 53)).alloc (.cells #[.string s] 9)) := ((Below.refl _ w).alloc (Nat.le_refl _) _).alloc (by simp) _
  obtain ⟨w0, hw0⟩ : ∃ W0, ((w.alloc (.cells #[.slice none 0 0] 53)).alloc (.cells #[.string s] 9)) = W0 := ⟨_, rfl⟩
  have hsz0 : w0.heap.size = w.heap.size + 1 + 1 := by rw [← hw0]; simp
  have bO0 : Boxed w0 w.heap.size 53 (.slice none 0 0) := by rw [← hw0]; exact bO.alloc _
  rw [hw0] at hB0 bN ⊢
  clear hw0 bO
  refine wpIn_rangeFunc_ownG rfl (by omega) (gf := 63) (lb := #[.pointer (some ⟨w.heap.size + 1, 0, none⟩)]) rfl trivial (enters_of Tryd.func63 (by kernel_rfl) rfl)
    (each_stops (3 - 1) (by omega) l hl (w.heap.size + 1) w0 s HS.out bN) KpE.t (KpE.b (by omega)) (Below.refl _ _) (fun _ => rfl)
    (fun (pre : List (Cl l.length)) W => (∃ v, Boxed W w.heap.size 53 v ∧ W.ownsRow (w.heap.size + 1 + 1) 3 1 v pre.length (pre.map (fun x => n64 x.1.1)) ∧ True) ∧ Below w.heap.size w0 W)
    (fun _ _ _ => False)
    (OwnFrom.and (Own.from (holdsRow_own (w.heap.size + 1 + 1) w.heap.size 53 3 1 (fun pre : List (Cl l.length) => pre.length) (fun pre => pre.map (fun x => n64 x.1.1)) (fun _ _ => True)) _) (ownFrom_below (by omega) (by omega)))
    (fun _ _ _ _ _ hs _ _ => hs)
    ⟨⟨_, bO0, World.ownsRow_nil _ _ _ _, trivial⟩, Below.refl _ _⟩
    (fun x : Cl l.length => { tmps := #[.string s, undef, .slice none 0 0, .pointer (some ⟨w.heap.size, 0, none⟩), n64 x.1.1, .string s, .func (.func 63) #[] #[.pointer (some ⟨w.heap.size + 1, 0, none⟩)], n64 x.1.1, str x.1.2, undef, undef, undef, undef, undef, undef, undef, undef, undef], defers := [] }) ?assign ?body ?done ?stop
  case assign =>
    intro yl x W K hK
    unfold encs
    gi_wp2
    exact hK
  case body =>
    rintro yl pre x W ⟨⟨v, hv, hrow, _⟩, hB⟩ hlt
    have hc := hv.cell
    have hR : w.heap.size + 1 + 1 ≤ W.heap.size := by have := hB.size; omega
    gi_wp2_with (gi_at_builtin; refine wpListIn_append_own _ rfl _ _ 53 rfl (w.heap.size + 1 + 1) 3 i0 _ 1 8 Tryd.underlying53 hi hz0 hz1 hz2 rfl (by decide) _ _ _ rfl (hrow.alloc _) ⟨W.heap.size, 0, none⟩ 1 1 [n64 x.1.1] rfl rfl (cell_one_new _ _ _) (by simp [Value.oneCell']) (by simp only [maxLen]; omega) (by omega) (by simp; omega) ?_; intro v' w1 hown' hgrow _; obtain ⟨g', cap', rfl⟩ := ownsRow_succ hown'; obtain ⟨hv1, hv2, hr2, hk2, hb2, hf2⟩ := appended2 hv (by decide) hrow hR hown' hgrow; have hc1 := hv1.cell; have hf1 := hv1.frozen)
    exact ⟨hk2.from _, ⟨keepsWalks_of hk2, hf2 _ (by omega) (by omega)⟩, ⟨_, hv2, by simpa using hr2, trivial⟩, hB.trans (hb2 _ (by omega) (by omega))⟩
  case done =>
    rintro D ys W hD hys ⟨⟨v, hv, hrow, _⟩, hB⟩ hK
    have hc := hv.cell
    have hR : w.heap.size + 1 + 1 ≤ W.heap.size := by have := hB.size; omega
    have e2 : ys.length = (cuts l).length := by
      have := congrArg List.length hys
      rw [ats_len] at this
      simpa [val] using this
    have hss : s.size = l.length := by rw [HS.out]; simp [ByteArray.size]
    gi_wp2_with (gi_at_builtin; refine wpListIn_append_own _ rfl _ _ 53 rfl (w.heap.size + 1 + 1) 3 i0 _ 1 8 Tryd.underlying53 hi hz0 hz1 hz2 rfl (by decide) _ _ _ rfl (hrow.alloc _) ⟨W.heap.size, 0, none⟩ 1 1 [n64 l.length] rfl rfl (cell_one_new _ _ _) (by simp [Value.oneCell']) (by simp only [maxLen]; omega) (by omega) (by simp; omega) ?_; intro v' w1 hown' hgrow _; obtain ⟨g', cap', rfl⟩ := ownsRow_succ hown')
    have hgrow' : (W.alloc (.cells #[n64 l.length] 3)).grownBy w1 v.ownBlock := hgrow
    have hK1 : w1.heap[D]? = some (.deferred (some [])) := app_heap hgrow' hK (owns_ne hrow hK rfl)
    have hB1 : Below w.heap.size w w1 := app_below (hB0.trans hB) (by omega) hgrow' (fun k e => by have := owns_lt hrow e; omega)
    refine ⟨by simp, .inl ⟨_, _, rfl, run_takeDeferred hK1, ?_⟩⟩
    have e3 := val_n64 hys
    rw [cuts_flat, Nat.zero_add] at e3
    rw [e3, e2] at hown'
    refine ⟨_, results_tmp rfl _ _ _, _, rfl, ?_, hB1.trans (belowK_b (w := w) (Nat.le_refl _) w1 D _ _ (by omega) hK1 rfl rfl)⟩
    rw [bnds_len]
    exact (Row.of_owns (ownsRow_putObj hown' _ hK1 rfl)).mono (by omega)
  case stop =>
    rintro D c pre W _ _ h _
    exact h.elim
end Go.Proofs.YtcifakmlfndlaaaDoor
