import Derived.Test.YtkpfendodmfeoaaTx5
import Derived.Laws.StructEq
namespace Go.Proofs.Ytkpfendodmfeoaa
set_option linter.unusedVariables false
set_option linter.unusedSimpArgs false
open Go.RowKit Go.Shelf
attribute [local go_sem] Oper.semAt_some
theorem results_cell1 {fn : Func} {p : Tmp} {ty : TypeId} (h : fn.results = #[.cell p ty]) {tmps : Array Value} {P : Program} {w : World} {a : Addr} {v : Value} (ha : tmps.getD p undef = .pointer (some a)) (hv : (loadVar ty a).run P w = .ok v w) :
    (results fn tmps).run P w = .ok v w := by
  simp only [results, h]
  have ha' : tmps[p]?.getD undef = .pointer (some a) := by simpa using ha
  simp [ha', asAddr, hv]
theorem run_loadVar_bool (w : World) (a : Addr) (b : Bool) (hc : w.cell? a = some (.bool b)) : (loadVar 4 a).run Try.prog w = .ok (.bool b) w := by
  have h : (isAgg 4).run Try.prog w = .ok false w := by
    unfold isAgg
    rw [Sem.run_bind, run_underlying Try.underlying4 w]
    rfl
  unfold loadVar
  rw [Sem.run_bind, h]
  simp [go_sem, hc]
/-- What stands in same's rounds. -/
structure SmI (W0 : World) (b8 : Nat) (L : Ents V) (pre : List Kl) (W : World) : Prop where
  fr : Fr (fun b => b = b8) W0 W
  box : W.heap[b8]? = some (.cells #[n64 pre.length] 3 (0, 0))
  told : vals pre <+: L
theorem fr_own {β : Type} {W0 : World} {S : Nat → Prop} {B : Nat} (hB : W0.heap.size ≤ B) : OwnFrom B (fun (_ : β) W => Fr S W0 W) := fun s W W' row h hg hr =>
  ⟨hg.os.trans h.os, hg.tape.trans h.tape, hg.output.trans h.output, Nat.le_trans h.size hg.size, fun k hk hn => (hg.block k (Nat.lt_of_lt_of_le hk h.size) fun e => by have := (hr k e.symm).1; omega).trans (h.block k hk hn)⟩
theorem SmI.own {W0 : World} {b8 B : Nat} {L : Ents V} (hB : W0.heap.size ≤ B) : OwnFrom B (SmI W0 b8 L) := fun s W W' row h hg hr =>
  ⟨fr_own (β := Unit) hB () W W' row h.fr hg hr, (cells_same hg (fun r e => (hr r e).2) h.box).trans h.box, h.told⟩
theorem told_next {L : Ents V} {pr : List Kl} {x : Kl} {q : Bs × V} (h : vals pr <+: L) (hq : L[pr.length]? = some q) : vals (pr ++ [x]) <+: L ↔ q = x.1 := by
  have hl : (vals pr).length = pr.length := by simp [vals]
  have ht : vals pr = L.take pr.length := by rw [← hl]; exact List.prefix_iff_eq_take.1 h
  have e : vals (pr ++ [x]) = vals pr ++ [x.1] := by simp [vals]
  rw [e]
  constructor
  · rintro ⟨t, ht2⟩
    rw [← ht2, List.append_assoc, List.getElem?_append_right (by omega), hl, Nat.sub_self] at hq
    simpa using hq.symm
  · intro hqx
    refine ⟨L.drop (pr.length + 1), ?_⟩
    obtain ⟨hlt, hg⟩ := List.getElem?_eq_some_iff.1 hq
    rw [ht, ← hqx, ← hg, List.append_assoc, List.singleton_append, ← List.drop_eq_getElem_cons hlt, List.take_append_drop]
set_option maxRecDepth 100000 in
set_option maxHeartbeats 3200000 in
/-- same, of what is the same. -/
theorem same_calls (w : World) (tb : Nat) (l : Ents V) (fp : List Nat) (ht : Tr w tb l fp) (B : Nat) (v : Value) (hr : PR w B v l) (L : Nat) (hL : L ≤ 1073741824) (hK : KeysLe L l) (hN : l.length ≤ 1073741824) (s : ByteArray) (p : Bs) (hs : s = ⟨p.toArray⟩) (hp : p.length ≤ 1073741824) :
    Calls Try.prog 14 #[.pointer (some ⟨tb, 0, none⟩), v, .string s] w fun e w' => e = .returned (.bool true) ∧ Below w.heap.size w w' := by
  have HR := Lib.hid hr
  have HT := Lib.hid ht
  have hK4 : KeysLe 4294967296 l := fun q hq => by have := hK q hq; omega
  have hru := fun (W : World) (h : Below w.heap.size w W) => rUnder_calls W B v l (Row.at_ hr fun g hg => h.block g (Row.lt hr g hg).2) hN hK4 s p hs (by omega)
  have HRU := Lib.hid hru
  have HS := Lib.hid hs
  have HK := Lib.hid hK
  clear hru hs hK hK4 hr ht
  refine (callsIn_wide (n := 3)).1 ?_
  refine callsIn_of_wp_marks Try.func14 rfl trivial ?_ rfl
  simp only [Try.ntmps14, List.size_toArray, List.length_cons, List.length_nil, Nat.reduceAdd, Nat.reduceSub, Array.replicate_succ, Array.replicate_zero, List.push_toArray, List.append_toArray, List.nil_append, List.cons_append]
  gi_wp2_with (first
    | (refine ⟨trivial, ?_⟩; gi_at_call 27; refine (callsIn_wide.2 (HRU.out _ ((Below.refl _ w).alloc (Nat.le_refl _) _))).mono ?_; rintro e w1 ⟨v1, rfl, hr1, hb1⟩; obtain ⟨A1, c1, rfl, _⟩ := id hr1.rd)
    | (refine ⟨trivial, ?_⟩; gi_at_call 26; refine (callsIn_wide.2 (Under_calls _ _ _)).mono ?_; rintro e w' ⟨rfl, rfl⟩))
  obtain ⟨W0, hW0⟩ : ∃ W0, W0 = ((((w1.alloc (.cells #[.slice A1 (lunder l p).length c1] 26)).alloc (.cells #[.int .i64 0] 3)).alloc (.cells #[.pointer (some ⟨tb, 0, none⟩)] 24)).alloc (.cells #[.string s] 9)) := ⟨_, rfl⟩
  have hsz0 : W0.heap.size = w1.heap.size + 1 + 1 + 1 + 1 := by rw [hW0]; simp
  have hB0 : Below w1.heap.size w1 W0 := by rw [hW0]; exact ((((Below.refl _ w1).alloc (Nat.le_refl _) _).alloc (by simp) _).alloc (by simp <;> omega) _).alloc (by simp <;> omega) _
  have b7 : W0.heap[w1.heap.size]? = some (.cells #[.slice A1 (lunder l p).length c1] 26 (0, 0)) := by
    rw [hW0]
    exact (Below.heap_alloc _ _ _ (by simp <;> omega)).trans ((Below.heap_alloc _ _ _ (by simp <;> omega)).trans ((Below.heap_alloc _ _ _ (by simp)).trans (heap_alloc_new w1 _)))
  have b8 : W0.heap[w1.heap.size + 1]? = some (.cells #[.int .i64 0] 3 (0, 0)) := by
    rw [hW0]
    refine (Below.heap_alloc _ _ _ (by simp <;> omega)).trans ((Below.heap_alloc _ _ _ (by simp)).trans ?_)
    have := heap_alloc_new (w1.alloc (.cells #[.slice A1 (lunder l p).length c1] 26)) (.cells #[.int .i64 0] 3)
    rwa [World.size_alloc] at this
  have b2 : W0.heap[w1.heap.size + 1 + 1]? = some (.cells #[.pointer (some ⟨tb, 0, none⟩)] 24 (0, 0)) := by
    rw [hW0]
    refine (Below.heap_alloc _ _ _ (by simp)).trans ?_
    have := heap_alloc_new ((w1.alloc (.cells #[.slice A1 (lunder l p).length c1] 26)).alloc (.cells #[.int .i64 0] 3)) (.cells #[.pointer (some ⟨tb, 0, none⟩)] 24)
    rwa [World.size_alloc, World.size_alloc] at this
  have b3 : W0.heap[w1.heap.size + 1 + 1 + 1]? = some (.cells #[.string s] 9 (0, 0)) := by
    rw [hW0]
    have := heap_alloc_new (((w1.alloc (.cells #[.slice A1 (lunder l p).length c1] 26)).alloc (.cells #[.int .i64 0] 3)).alloc (.cells #[.pointer (some ⟨tb, 0, none⟩)] 24)) (.cells #[.string s] 9)
    rwa [World.size_alloc, World.size_alloc, World.size_alloc] at this
  have hw1 : w.heap.size + 1 ≤ w1.heap.size := by have := hb1.size; simpa using this
  have hb10 : Below w.heap.size w w1 := by
    have := (hb1.mono (B' := w.heap.size) (by simp))
    exact ((Below.refl _ w).alloc (Nat.le_refl _) _).trans this
  have hbw : Below w.heap.size w W0 := hb10.trans (hB0.mono (by omega))
  have b6 : W0.heap[w.heap.size]? = some (.cells #[.bool false] 4 (0, 0)) := by
    rw [hB0.block _ (by omega), hb1.block _ (by simp)]
    exact heap_alloc_new w _
  have hltw := HT.out.lt
  have hT : Tr W0 tb l fp := HT.out.move fun b hb => hbw.block b (hltw b hb)
  have hP0 : PR W0 (w.heap.size + 1) (.slice A1 (lunder l p).length c1) (lunder l p) := by
    have h : PR w1 (w.heap.size + 1) (.slice A1 (lunder l p).length c1) (lunder l p) := by simpa using hr1
    exact Row.at_ h fun g hg => hB0.block g (Row.lt h g hg).2
  have hg1 : ∀ g, (Value.slice A1 (lunder l p).length c1).ownBlock = some g → g < w1.heap.size := fun g hg => (Row.lt hr1 g hg).2
  rw [← hW0]
  clear hW0 hb1 hr1
  have HT0 := Lib.hid hT
  have HP0 := Lib.hid hP0
  have HBW := Lib.hid hbw
  have B6 := Lib.hid b6
  have B7 := Lib.hid b7
  clear hT hP0 hbw hB0 b6 b7 hb10
  refine wpIn_rangeFunc_ownG rfl (by omega) (gf := 40) (lb := #[.pointer (some ⟨w1.heap.size + 1 + 1, 0, none⟩), .pointer (some ⟨w1.heap.size + 1 + 1 + 1, 0, none⟩)]) rfl trivial (enters_of Try.func40 (by kernel_rfl) rfl)
    (under_stops (3 - 1) (by omega) tb (w1.heap.size + 1 + 1) (w1.heap.size + 1 + 1 + 1) l fp p s HS.out L hL HK.out hp W0 HT0.out b2 b3) KpU.t' (KpU.b (fun b hb => by rcases hb with h | h | h; (have := hltw b h; omega); omega; omega)) (Below.refl _ _) (fun _ => rfl)
    (SmI W0 (w1.heap.size + 1) (lunder l p))
    (fun _ pr _ => ¬ vals pr <+: lunder l p)
    (SmI.own (Nat.le_refl _))
    (fun _ _ _ _ _ hs _ _ => hs)
    ⟨Fr.refl _ _, b8, List.nil_prefix⟩
    (fun x : Kl => { tmps := #[.pointer (some ⟨tb, 0, none⟩), v, .string s, undef, undef, undef, .pointer (some ⟨w.heap.size, 0, none⟩), .pointer (some ⟨w1.heap.size, 0, none⟩), .pointer (some ⟨w1.heap.size + 1, 0, none⟩), str x.1.1, encV x.1.2, v, .string s, .slice A1 (lunder l p).length c1, .pointer (some ⟨tb, 0, none⟩), .string s, .func (.func 40) #[] #[.pointer (some ⟨w1.heap.size + 1 + 1, 0, none⟩), .pointer (some ⟨w1.heap.size + 1 + 1 + 1, 0, none⟩)], str x.1.1, encV x.1.2, undef, undef, undef, undef, undef, undef, undef, undef, undef, undef, undef, undef, undef, undef, undef, undef, undef, undef, undef, undef, undef, undef, undef, undef, undef, undef, undef], defers := [] }) ?assign ?body ?done ?stop
  case assign =>
    intro yl x W K hK
    unfold encK encE
    gi_wp2
    exact hK
  case body =>
    rintro yl pr x W hI hlt
    obtain ⟨q, hq⟩ : ∃ q, (lunder l p)[pr.length]? = some q := ⟨_, List.getElem?_eq_getElem hlt⟩
    have hPW : PR W (w.heap.size + 1) (.slice A1 (lunder l p).length c1) (lunder l p) := Row.at_ HP0.out fun g hg => hI.fr.block g (by have := hg1 g hg; omega) (by have := hg1 g hg; omega)
    obtain ⟨g, off, rfl, d1, d2⟩ := hPW.at hq
    have d3 : W.cell? ⟨w1.heap.size + 1, 0, none⟩ = some (n64 pr.length) := by rw [cell_of_row W _ _ _ _ (0, 0) hI.box]; rfl
    have h7 := (hI.fr.block w1.heap.size (by omega) (by omega)).trans B7.out
    have d4 : W.cell? ⟨w1.heap.size, 0, none⟩ = some (.slice (some ⟨g, off, none⟩) (lunder l p).length c1) := by rw [cell_of_row W _ _ _ _ (0, 0) h7]; rfl
    have h6 := (hI.fr.block w.heap.size (by omega) (by omega)).trans B6.out
    have d5 : W.frozen? ⟨w.heap.size, 0, none⟩ = false := frozen_of_row W _ 0 _ _ h6
    have d6 : W.frozen? ⟨w1.heap.size + 1, 0, none⟩ = false := frozen_of_row W _ 0 _ _ hI.box
    have d7 : W.cell? ⟨w.heap.size, 0, none⟩ = some (.bool false) := by rw [cell_of_row W _ _ _ _ (0, 0) h6]; rfl
    obtain ⟨sq, hsq⟩ : ∃ sq : ByteArray, sq = ⟨q.1.toArray⟩ := ⟨_, rfl⟩
    rw [lit_of hsq] at d1
    obtain ⟨sx, hsx⟩ : ∃ sq : ByteArray, sq = ⟨x.1.1.toArray⟩ := ⟨_, rfl⟩
    rw [show str x.1.1 = .string sx from lit_of hsx]
    have hll : (lunder l p).length ≤ l.length := List.length_filter_le _ _
    have e1 : (pr.length : Int) < ((lunder l p).length : Int) := by omega
    have e2 : ¬ (((lunder l p).length : Int) ≤ (pr.length : Int)) := by omega
    have HI := Lib.hid hI
    have HQ := Lib.hid hq
    have HSQ := Lib.hid hsq
    have HSX := Lib.hid hsx
    have hbe := str_beq hsq hsx
    clear hI hq hsq hsx hPW h7 h6
    have hret : q ≠ x.1 → ∀ W', W' = W.setCell ⟨w.heap.size, 0, none⟩ (.bool false) → KeepsFrom (w1.heap.size + 1 + 1 + 1 + 1) W W' ∧ ¬ vals (pr ++ [x]) <+: lunder l p := fun hne W' e => by
      rw [e]
      exact ⟨(KeepsOthers.setCell W ⟨w.heap.size, 0, none⟩ (.bool false)).from _, fun h => hne ((told_next HI.out.told HQ.out).1 h)⟩
    have HRET := Lib.hid hret
    clear hret
    by_cases hqx : q.1 = x.1.1
    · rw [decide_eq_true hqx] at hbe
      by_cases hv : q.2 = x.1.2
      · have hve : (q.2 == x.1.2) = true := by simpa using hv
        gi_wp2
        refine ⟨(KeepsOthers.setCell W ⟨w1.heap.size + 1, 0, none⟩ _).from _, KpU.of_fr (Fr.setCell W ⟨w1.heap.size + 1, 0, none⟩ _) (fun b hb => ?_) (fun b hb => ?_), ?_, ?_, ?_⟩
        · have hws := HI.out.fr.size
          rcases hb with h | h | h
          · have := hltw b h; exact ⟨by omega, fun e => by have e : b = w1.heap.size + 1 := e; omega⟩
          · exact ⟨by omega, fun e => by have e : b = w1.heap.size + 1 := e; omega⟩
          · exact ⟨by omega, fun e => by have e : b = w1.heap.size + 1 := e; omega⟩
        · rw [show b = w1.heap.size + 1 from hb]
          exact ⟨_, _, HI.out.box, by decide, by decide⟩
        · exact HI.out.fr.trans (Fr.setCell W ⟨w1.heap.size + 1, 0, none⟩ _) fun _ _ e => e
        · have := heap_setCell_same W (w1.heap.size + 1) 0 _ _ (.int .i64 ((pr.length : Int) + 1)) HI.out.box
          rw [show n64 (pr ++ [x]).length = .int .i64 ((pr.length : Int) + 1) by simp]
          exact this
        · exact (told_next HI.out.told HQ.out).2 (Prod.ext hqx hv)
      · have hve : (q.2 == x.1.2) = false := by simpa using hv
        gi_wp2
        exact HRET.out (fun e => hv (by rw [e])) _ rfl
    · rw [decide_eq_false hqx] at hbe
      gi_wp2
      exact HRET.out (fun e => hqx (by rw [e])) _ rfl
  case done =>
    rintro D ys W hD hys hI hK2
    have hI' := hI
    have hyl : ys.length = (lunder l p).length := by rw [← hys]; simp [vals]
    have d3 : W.cell? ⟨w1.heap.size + 1, 0, none⟩ = some (n64 (lunder l p).length) := by rw [cell_of_row W _ _ _ _ (0, 0) hI.box, hyl]; rfl
    have h7 := (hI.fr.block w1.heap.size (by omega) (by omega)).trans B7.out
    have d4 : W.cell? ⟨w1.heap.size, 0, none⟩ = some (.slice A1 (lunder l p).length c1) := by rw [cell_of_row W _ _ _ _ (0, 0) h7]; rfl
    have h6 := (hI.fr.block w.heap.size (by omega) (by omega)).trans B6.out
    have d5 : W.frozen? ⟨w.heap.size, 0, none⟩ = false := frozen_of_row W _ 0 _ _ h6
    have d7 : W.cell? ⟨w.heap.size, 0, none⟩ = some (.bool false) := by rw [cell_of_row W _ _ _ _ (0, 0) h6]; rfl
    have HI := Lib.hid hI
    have HK2 := Lib.hid hK2
    have H6 := Lib.hid h6
    clear hI hI' h7 h6 hK2 hys
    gi_wp2
    have hTW : ∀ W', Dr W W' → Tr W' tb l fp := fun W' hd => (HT0.out.move fun b hb => by
      have := hltw b hb
      exact HI.out.fr.block b (by omega) (by omega)).dr hd
    have hmany := fun W' (h : Dr W W') => TMany_calls W' tb l fp (hTW W' h) L (by omega) HK.out s p HS.out (by omega)
    have HMANY := Lib.hid hmany
    clear hTW hmany
    refine wpIn_wide.2 (wp_mono (Q := fun e a' w' => match e with
      | .normal => ∃ tmps, a' = { tmps := tmps, defers := [{ target := .collected D, args := #[] }] } ∧ tmps.getD 6 undef = .pointer (some ⟨w.heap.size, 0, none⟩) ∧ ∃ m, w' = (W.drewN m).setCell ⟨w.heap.size, 0, none⟩ (.bool true)
      | _ => False) ?_ ?_)
    · go_region_with (go_at_call 30; refine (HMANY.out _ ⟨1, rfl⟩).mono ?_; rintro e w' ⟨rfl, nd, rfl⟩)
      all_goals exact ⟨_, rfl, rfl, _, rfl⟩
    · intro e a' w' hq
      cases e
      case normal =>
        obtain ⟨tmps, rfl, h6t, m, rfl⟩ := hq
        gi_wp2
        refine ⟨by simp, .inl ⟨_, _, rfl, run_takeDeferred (w := (W.drewN m).setCell ⟨w.heap.size, 0, none⟩ (.bool true)) ((Below.heap_setCell _ _ _ _ (by dsimp only; omega)).trans HK2.out), ?_⟩⟩
        have hne : w.heap.size ≠ D := by omega
        have hc6 : (((W.drewN m).setCell ⟨w.heap.size, 0, none⟩ (.bool true)).putObj D (.deferred none)).heap[w.heap.size]? = some (.cells #[.bool true] 4 (0, 0)) := by
          rw [World.putObj_heap_other hne]
          exact heap_setCell_same (W.drewN m) w.heap.size 0 _ _ (.bool true) H6.out
        refine ⟨_, results_cell1 rfl (a := ⟨w.heap.size, 0, none⟩) h6t (run_loadVar_bool _ _ true (by rw [cell_of_row _ _ _ _ _ (0, 0) hc6]; rfl)), rfl, ?_⟩
        have hfr := HI.out.fr
        have hW : Below w.heap.size w (W.drewN m) := ⟨hfr.os.trans HBW.out.os, hfr.tape.trans HBW.out.tape, hfr.output.trans HBW.out.output, Nat.le_trans HBW.out.size hfr.size, fun k hk => (hfr.block k (by omega) (fun e => by have e : k = w1.heap.size + 1 := e; omega)).trans (HBW.out.block k hk)⟩
        have hW2 := hW.setCell (p := ⟨w.heap.size, 0, none⟩) (Nat.le_refl _) (.bool true)
        refine hW2.trans (belowK_b (w := w) (Nat.le_refl _) _ D (.deferred (some [])) _ (by omega) ((Below.heap_setCell _ _ _ _ (by dsimp only; omega)).trans HK2.out) rfl rfl)
      all_goals exact hq.elim
  case stop =>
    rintro D c pr W _ h1 h2 _
    exact absurd h1 h2
end Go.Proofs.Ytkpfendodmfeoaa
