import Derived.Test.YtfgjhfmgacopoaaDoorLo1
import Derived.Test.YtfgjhfmgacopoaaDoorTt3
import Derived.Laws.CopyOwn
import Derived.Deep.RegionLaw
import Derived.Shelf.Spec.SlicesInsert
namespace Go.Proofs.YtfgjhfmgacopoaaDoor
set_option linter.unusedVariables false
set_option linter.unusedSimpArgs false
open Go.RowKit Go.Shelf
/-! Chapter 18: cells in memory; copy of elements of more than one cell; back, plain, Blank, Repeat. -/
def cellV (c : CellT) : List Value := [str c.s, .int .i64 c.wd, .bool c.dim]
def flatC (l : RowT) : List Value := l.flatMap cellV
def aggC (c : CellT) : Value := .agg (cellV c).toArray
theorem flatC_len : (l : RowT) → (flatC l).length = l.length * 3
  | [] => rfl
  | c :: l => by
    have := flatC_len l
    unfold flatC at this ⊢
    rw [List.flatMap_cons, List.length_append, this]
    simp only [cellV, List.length_cons, List.length_nil]; omega
theorem flatC_app (a b : RowT) : flatC (a ++ b) = flatC a ++ flatC b := by unfold flatC; rw [List.flatMap_append]
theorem flatC_one (l : RowT) : ∀ v ∈ flatC l, v.oneCell' = true := by
  intro v hv
  obtain ⟨c, _, h⟩ := List.mem_flatMap.1 hv
  simp only [cellV, List.mem_cons, List.not_mem_nil, or_false] at h
  rcases h with e | e | e <;> subst e <;> rfl
theorem flatC_take : (l : RowT) → (n : Nat) → (flatC l).take (n * 3) = flatC (l.take n)
  | [], n => by simp [flatC]
  | c :: l, 0 => by simp [flatC]
  | c :: l, n + 1 => by
    have ih := flatC_take l n
    rw [List.take_succ_cons]
    show (cellV c ++ flatC l).take ((n + 1) * 3) = cellV c ++ flatC (l.take n)
    rw [List.take_append, List.take_of_length_le (by simp [cellV]; omega), ← ih]
    congr 2
    simp [cellV]; omega
theorem flatC_drop : (l : RowT) → (n : Nat) → (flatC l).drop (n * 3) = flatC (l.drop n)
  | [], n => by simp [flatC]
  | c :: l, 0 => by simp [flatC]
  | c :: l, n + 1 => by
    have ih := flatC_drop l n
    rw [List.drop_succ_cons]
    show (cellV c ++ flatC l).drop ((n + 1) * 3) = flatC (l.drop n)
    rw [List.drop_append, List.drop_eq_nil_of_le (by simp [cellV]; omega), ← ih, List.nil_append]
    congr 1
    simp [cellV]; omega
theorem flatC_splice (l : RowT) (x : Nat) (cs : RowT) : splice (flatC l) (x * 3) (flatC cs) = flatC (splice l x cs) := by
  unfold splice
  rw [flatC_app, flatC_app, flatC_take, flatC_len, show x * 3 + cs.length * 3 = (x + cs.length) * 3 by omega, flatC_drop]
theorem flatC_get {l : RowT} {k : Nat} {c : CellT} (h : l[k]? = some c) : ∀ j v, (cellV c)[j]? = some v → (flatC l)[k * 3 + j]? = some v := by
  intro j v hj
  have hj3 : j < 3 := by
    have := (List.getElem?_eq_some_iff.1 hj).1
    simpa [cellV] using this
  have e : (flatC l).drop (k * 3) = cellV c ++ flatC (l.drop (k + 1)) := by
    have hk := (List.getElem?_eq_some_iff.1 h).1
    have hv := (List.getElem?_eq_some_iff.1 h).2
    rw [flatC_drop, List.drop_eq_getElem_cons hk, hv]; rfl
  rw [← List.getElem?_drop, e, List.getElem?_append_left (by simpa [cellV] using hj3)]
  exact hj
/-- copy of elements of sz cells into a row that is known whole. -/
theorem run_copy_sz {P : Program} (w : World) (dT sT ty elem : TypeId) (sz g o dLen dCap : Nat) (a : Addr) (sLen sCap : Nat) (cur : List Value) (t : TypeId) (cs : List Value)
    (hu : P.underlying dT = some (.slice elem)) (hs : (P.info? elem).map (·.size) = some sz)
    (hg : w.heap[g]? = some (.cells cur.toArray t (0, 0))) (k : Nat) (hk : Nat.min sLen dLen = k) (hn : cs.length = k * sz)
    (hsrc : Rd w (some a) cs) (hfit : o + cs.length ≤ cur.length) (h1 : ∀ v ∈ cs, v.oneCell' = true) :
    (Builtin.copy_ #[dT, sT] ty #[.slice (some ⟨g, o, none⟩) dLen dCap, .slice (some a) sLen sCap]).run P w =
      .ok (goInt k) (w.setRow g (splice cur o cs).toArray) := by
  subst hk
  have hl := run_loadCells_rd (P := P) hsrc
  have hst := run_storeCells_at P g o t cs 0 cur.toArray w hg (by simpa using hfit) h1
  cases hq : P.info? elem with
  | none => simp [hq] at hs
  | some i =>
    have hi : i.size = sz := by simpa [hq] using hs
    simp [Builtin.copy_, run_underlying hu, Builtin.lenOf, Builtin.firstCells, sizeOf, typeInfo, hq, hi, ← hn, hl, hst, splice]
/-- layout's back. -/
theorem lback_calls (l : Bs) (hl : l.length ≤ 4294967296) (s : ByteArray) (hs : s = ⟨l.toArray⟩) (a : Int) (w : World) :
    Calls Tryd.prog 42 #[.string s, .int .i64 a] w fun e w' => e = .returned (n64 (back l a)) ∧ Below w.heap.size w w' := by
  have hq := Bounds_calls l hl s hs w
  have HQ := Lib.hid hq
  have hcl := cuts_len l
  have hn := bnds_len 0 (cuts l)
  have hbk : back l a = bkV (bnds 0 (cuts l)) a := rfl
  have HBK := Lib.hid hbk
  have hmx : ∀ x ∈ bnds 0 (cuts l), x ≤ l.length := fun x hx => by
    obtain ⟨k, _, e⟩ := mem_bnds.1 hx
    rw [e]; exact off_le l k
  have HMX := Lib.hid hmx
  obtain ⟨bs, hbs⟩ : ∃ bs, bs = bnds 0 (cuts l) := ⟨_, rfl⟩
  rw [← hbs] at hn HQ HBK HMX
  clear hq hs hbk hbs hmx
  go_enter Tryd.func42, Tryd.ntmps42
  go_wp2_with fail
  refine HQ.out.mono ?_
  rintro e w1 ⟨v, rfl, hrow, hb1⟩
  obtain ⟨A, c, rfl, hnc, _, hrd, hA⟩ := hrow.rd
  have HR := Lib.hid hrd
  have hlen : bs.length ≤ 4294967297 := by omega
  clear hrow hrd hn
  go_wp2
  go_loopw [5, 11] (fun u5 u11 wr => ∃ j : Nat, u11 = n64 j ∧ j ≤ bs.length ∧ u5 = n64 (bkV (bs.take j) a) ∧ wr = w1) (fun _ u11 _ => (bs.length - intOf u11).toNat)
  case atStart => exact ⟨0, rfl, Nat.zero_le _, rfl, rfl⟩
  case round =>
    obtain ⟨j, rfl, hj, rfl, rfl⟩ := hrel
    by_cases hlt : j < bs.length
    · obtain ⟨x, hx⟩ : ∃ x, bs[j]? = some x := ⟨_, List.getElem?_eq_getElem hlt⟩
      obtain ⟨g, off, rfl, c0⟩ := HR.out j (n64 x) (by rw [List.getElem?_map, hx]; rfl)
      have hst := take_fold a bs j x hx
      have HST := Lib.hid hst
      have hjl : (j : Int) < (bs.length : Int) := by omega
      clear hst hx
      by_cases hxa : (x : Int) ≤ a
      · have hd : decide ((x : Int) ≤ a) = true := by simpa using hxa
        go_wp2
        go_roundw
        case rel => exact ⟨j + 1, by go_num, by omega, by rw [HST.out, if_pos hxa], trivial⟩
        case measure => simp [intOf]; omega
      · have hd : decide ((x : Int) ≤ a) = false := by simpa using hxa
        go_wp2
        go_roundw
        case rel => exact ⟨j + 1, by go_num, by omega, by rw [HST.out, if_neg hxa], trivial⟩
        case measure => simp [intOf]; omega
    · obtain rfl : j = bs.length := by omega
      rw [List.take_length]
      go_wp2
      go_ret
      exact ⟨by rw [HBK.out]; rfl, hb1⟩
/-- layout's plain. -/
theorem lplain_calls (l : Bs) (hl : l.length ≤ 100000) (s : ByteArray) (hs : s = ⟨l.toArray⟩) (w : World) (hU : U8 w) :
    Calls Tryd.prog 39 #[.string s] w fun e w' => e = .returned (str (plainL l)) ∧ Below w.heap.size w w' := by
  have hP := Plain_calls l (by omega) s hs w hU
  have hp := pl_len l
  obtain ⟨p, hpl⟩ : ∃ p, p = pl l := ⟨_, rfl⟩
  have HB : ∀ w, Calls Tryd.prog 42 #[str p, .int .i64 1200] w fun e w' => e = .returned (n64 (back p 1200)) ∧ Below w.heap.size w w' := fun w => lback_calls p (by rw [hpl]; omega) _ rfl 1200 w
  have hle := back_le p 1200
  have HPL := Lib.hid (show plainL l = if p.length ≤ 1200 then p else p.take (back p 1200) by rw [hpl]; rfl)
  rw [← hpl] at hP hp
  rw [HPL.out]
  have HP := Lib.hid hP
  have HB' := Lib.hid HB
  have hsz : (⟨p.toArray⟩ : ByteArray).size = p.length := str_of p
  have hpb : p.length ≤ 400000 := by omega
  clear hP HB hU hs hpl hl hp HPL
  by_cases h1 : p.length ≤ 1200
  · have hi : (p.length : Int) ≤ 1200 := by omega
    have e1 : decide ((p.length : Int) ≤ 1200) = true := by simpa using hi
    rw [if_pos h1]
    go_enter Tryd.func39, Tryd.ntmps39
    go_wp2_with (refine HP.out.mono ?_; rintro e w1 ⟨rfl, hb1⟩)
    go_ret
    exact ⟨rfl, hb1⟩
  · have hi : (1200 : Int) < (p.length : Int) := by omega
    have e1 : decide ((p.length : Int) ≤ 1200) = false := by simp; omega
    rw [if_neg h1]
    go_enter Tryd.func39, Tryd.ntmps39
    go_wp2_with (first
      | (refine HP.out.mono ?_; rintro e w1 ⟨rfl, hb1⟩)
      | (refine (HB'.out _).mono ?_; rintro e w2 ⟨rfl, hb2⟩))
    go_ret
    exact ⟨by rw [extract_eq]; simp, hb1.trans (hb2.mono hb1.size)⟩
theorem Blank_calls (w : World) : Calls Tryd.prog 53 #[] w fun e w' => e = .returned (aggC blankC) ∧ Below w.heap.size w w' := by
  go_enter Tryd.func53, Tryd.ntmps53
  go_wp2
  go_returns
  exact ⟨rfl, (Below.refl _ w).alloc (Nat.le_refl _) _⟩
end Go.Proofs.YtfgjhfmgacopoaaDoor
