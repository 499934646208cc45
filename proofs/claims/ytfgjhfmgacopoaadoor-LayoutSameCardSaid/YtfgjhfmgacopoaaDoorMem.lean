import Derived.Test.YtfgjhfmgacopoaaDoorPu
import Derived.WalkLawsBesides
import Derived.WalkSpells
import Derived.Handy
import Derived.Lib.Hide
import Derived.Lib.OthersKept
import Derived.BigQuiet
import Derived.Deep.QuietTactic
namespace Go.Proofs.YtfgjhfmgacopoaaDoor
open Go.RowKit
/-! What a slice reads as; a string's iterator. -/
/-- The slice at A reads as xs (elements of one cell each). -/
def Rd (w : World) (A : Option Addr) (xs : List Value) : Prop :=
  ∀ k u, xs[k]? = some u → ∃ b off, A = some ⟨b, off, none⟩ ∧ w.cell? ⟨b, off + k, none⟩ = some u
abbrev byt (b : UInt8) : Value := .int .u8 (b.toNat : Int)
abbrev i32 (n : Nat) : Value := .int .i32 (n : Int)
abbrev i64 (n : Int) : Value := .int .i64 n
abbrev n64 (n : Nat) : Value := .int .i64 (n : Int)
def RdB (w : World) (A : Option Addr) (l : Bs) : Prop := Rd w A (l.map byt)

theorem Rd.nil (w : World) (A : Option Addr) : Rd w A [] := fun k u h => by simp at h
theorem Rd.lt {w : World} {A : Option Addr} {xs : List Value} (h : Rd w A xs) {a : Addr} (ha : A = some a) (hx : xs ≠ []) : a.block < w.heap.size := by
  cases xs with
  | nil => exact absurd rfl hx
  | cons x xs =>
    obtain ⟨b, off, e, hc⟩ := h 0 x rfl
    rw [e] at ha; cases ha
    exact World.block_lt_of_cell? w _ hc
theorem Rd.below {w w' : World} {A : Option Addr} {xs : List Value} (h : Rd w A xs) {B : Nat} (hb : Below B w w') (hA : ∀ a, A = some a → xs ≠ [] → a.block < B) : Rd w' A xs := by
  intro k u hk
  obtain ⟨b, off, e, hc⟩ := h k u hk
  refine ⟨b, off, e, ?_⟩
  have hlt : b < B := hA ⟨b, off, none⟩ e (by intro e2; subst e2; simp at hk)
  rw [hb.cell (p := ⟨b, off + k, none⟩) hlt]
  exact hc
theorem Rd.later {w w' : World} {A : Option Addr} {xs : List Value} (h : Rd w A xs) (hb : Below w.heap.size w w') : Rd w' A xs :=
  h.below hb fun _ ha hx => h.lt ha hx
theorem Rd.take {w : World} {A : Option Addr} {xs : List Value} (h : Rd w A xs) (n : Nat) : Rd w A (xs.take n) := by
  intro k u hk
  rw [List.getElem?_take] at hk
  split at hk
  · exact h k u hk
  · cases hk
/-- What is read of a slice from n on: its address as the machine writes it. -/
theorem Rd.drop {w : World} {A : Option Addr} {xs : List Value} (h : Rd w A xs) (n c : Nat) (hc : xs.length ≤ c) : Rd w (if c = n then A else A.map (fun x => x.add n)) (xs.drop n) := by
  intro k u hk
  rw [List.getElem?_drop] at hk
  obtain ⟨b, off, e, hcell⟩ := h (n + k) u hk
  have hlt : n + k < xs.length := (List.getElem?_eq_some_iff.1 hk).1
  rw [if_neg (by omega), e]
  by_cases h0 : n = 0
  · subst h0; exact ⟨b, off, by simp [Addr.add], by simpa using hcell⟩
  · exact ⟨b, off + n, by simp [Addr.add, h0], by rw [Nat.add_assoc]; exact hcell⟩

/-- How long a slice in a slot is: for measures. -/
def lenOf : Value → Nat | .slice _ n _ => n | _ => 0
theorem ba_eq (s : ByteArray) : (⟨s.data.toList.toArray⟩ : ByteArray) = s := by cases s; rfl

/-- 'string(b)'. -/
theorem run_str {P : Program} (w : World) (src e dst : TypeId) (hs : P.underlying src = some (.slice e)) (he : P.underlying e = some (.int .u8)) (hd : P.underlying dst = some .string)
    (A : Option Addr) (l : Bs) (n c : Nat) (hn : n = l.length) (h : RdB w A l) :
    (convert src dst (.slice A n c)).run P w = .ok (.string ⟨l.toArray⟩) w := by
  subst hn
  by_cases hl : l = []
  · subst hl
    cases A with
    | none => rw [run_convert_bytes_nil w src e hs he _ _ dst hd]; rfl
    | some a =>
      rw [run_convert_bytes_string w src dst e _ _ _ hs he hd, run_bytesToString w a _ _ [] (by
        have := run_loadCells_list (P := P) w a [] (by simp)
        simpa using this)]
      rfl
  · have h0 : 0 < l.length := List.length_pos_iff.2 hl
    obtain ⟨b, off, rfl, _⟩ := h 0 (byt (l[0]'h0)) (by simp [h0])
    have := run_convert_bytes_arg (P := P) w src e hs he b off l.length c (l.map fun b => (b.toNat : Int)) (by simp) (by
      intro i hi
      obtain ⟨b', off', e, hc⟩ := h i (byt (l[i]'hi)) (by rw [List.getElem?_map, List.getElem?_eq_getElem hi]; rfl)
      cases e
      rw [hc]
      simp [byt, List.getD, hi]) dst hd
    rw [this]
    have e2 : (l.map (fun b => (b.toNat : Int))).map (fun n => UInt8.ofNat n.toNat) = l := by
      rw [List.map_map]
      conv => rhs; rw [← List.map_id l]
      apply List.map_congr_left
      intro x _; simp
    simp only [strOfNums, e2]

/-! Rows of the call's own. -/
/-- v is a slice of n elements (sz cells each) whose cells are xs, in a block from B on that may be written. -/
def Row (w : World) (B : Nat) (e : TypeId) (sz : Nat) (v : Value) (n : Nat) (xs : List Value) : Prop :=
  xs.length = n * sz ∧ ((v = .slice none 0 0 ∧ n = 0) ∨
    ∃ g off cap cur, v = .slice (some ⟨g, off, none⟩) n cap ∧ B ≤ g ∧ w.heap[g]? = some (.cells cur e (0, 0)) ∧ n ≤ cap ∧ cap ≤ maxLen ∧ off + cap * sz ≤ cur.size ∧ (cur.toList.drop off).take (n * sz) = xs)

theorem Row.nil (w : World) (B : Nat) (e : TypeId) (sz : Nat) : Row w B e sz (.slice none 0 0) 0 [] := ⟨by simp, .inl ⟨rfl, rfl⟩⟩
theorem Row.lt {w : World} {B : Nat} {e : TypeId} {sz : Nat} {v : Value} {n : Nat} {xs : List Value} (h : Row w B e sz v n xs) : ∀ k, v.ownBlock = some k → B ≤ k ∧ k < w.heap.size := by
  intro k hk
  rcases h.2 with ⟨rfl, _⟩ | ⟨g, off, cap, cur, rfl, hb, hg, _⟩
  · simp [Value.ownBlock] at hk
  · simp [Value.ownBlock] at hk
    subst hk
    exact ⟨hb, (Array.getElem?_eq_some_iff.1 hg).1⟩
theorem Row.mono {w : World} {B B' : Nat} {e : TypeId} {sz : Nat} {v : Value} {n : Nat} {xs : List Value} (h : Row w B e sz v n xs) (hB : B' ≤ B) : Row w B' e sz v n xs := by
  refine ⟨h.1, ?_⟩
  rcases h.2 with hn | ⟨g, off, cap, cur, hv, hb, r⟩
  · exact .inl hn
  · exact .inr ⟨g, off, cap, cur, hv, by omega, r⟩
/-- The row is there as long as its block is as it was. -/
theorem Row.at_ {w w' : World} {B : Nat} {e : TypeId} {sz : Nat} {v : Value} {n : Nat} {xs : List Value} (h : Row w B e sz v n xs) (hk : ∀ k, v.ownBlock = some k → w'.heap[k]? = w.heap[k]?) : Row w' B e sz v n xs := by
  refine ⟨h.1, ?_⟩
  rcases h.2 with hn | ⟨g, off, cap, cur, rfl, hb, hg, r⟩
  · exact .inl hn
  · exact .inr ⟨g, off, cap, cur, rfl, hb, by rw [hk g rfl]; exact hg, r⟩
theorem Row.below {w w' : World} {B D : Nat} {e : TypeId} {sz : Nat} {v : Value} {n : Nat} {xs : List Value} (h : Row w B e sz v n xs) (hb : Below D w w') (hD : w.heap.size ≤ D) : Row w' B e sz v n xs :=
  h.at_ fun k hk => hb.block k (by have := (h.lt k hk).2; omega)
theorem Row.alloc {w : World} {B : Nat} {e : TypeId} {sz : Nat} {v : Value} {n : Nat} {xs : List Value} (h : Row w B e sz v n xs) (o : Obj) : Row (w.alloc o) B e sz v n xs :=
  h.at_ fun k hk => Below.heap_alloc w o k (h.lt k hk).2
theorem Row.kept {w w' : World} {B : Nat} {e : TypeId} {sz : Nat} {v : Value} {n : Nat} {xs : List Value} {row : Option Nat} (h : Row w B e sz v n xs) (hg : w.grownBy w' row) (hne : v.ownBlock = none ∨ v.ownBlock ≠ row) : Row w' B e sz v n xs :=
  h.at_ fun k hk => hg.block k (h.lt k hk).2 (by rw [← hk]; rcases hne with e | e; · rw [e] at hk; cases hk
                                                 · exact e)
theorem Row.rd {w : World} {B : Nat} {e : TypeId} {sz : Nat} {v : Value} {n : Nat} {xs : List Value} (h : Row w B e sz v n xs) :
    ∃ A c, v = .slice A n c ∧ n ≤ c ∧ c ≤ maxLen ∧ Rd w A xs ∧ (∀ a, A = some a → B ≤ a.block ∧ a.block < w.heap.size) := by
  rcases h.2 with ⟨rfl, rfl⟩ | ⟨g, off, cap, cur, rfl, hb, hg, hn, hm, hs, ht⟩
  · have hx : xs = [] := List.eq_nil_of_length_eq_zero (by simpa using h.1)
    subst hx
    exact ⟨none, 0, rfl, Nat.le_refl _, Nat.zero_le _, Rd.nil _ _, by simp⟩
  · refine ⟨_, _, rfl, hn, hm, ?_, fun a ha => by cases ha; exact ⟨hb, (Array.getElem?_eq_some_iff.1 hg).1⟩⟩
    intro k u hk
    refine ⟨g, off, rfl, ?_⟩
    rw [cell_of_row w g (off + k) cur e (0, 0) hg]
    rw [← ht, List.getElem?_take] at hk
    split at hk
    · rw [List.getElem?_drop] at hk; simpa using hk
    · cases hk
theorem Row.new (w : World) (cs : Array Value) (B : Nat) (e : TypeId) (sz n : Nat) (hb : B ≤ w.heap.size) (hm : n ≤ maxLen) (hs : cs.size = n * sz) :
    Row (w.alloc (.cells cs e)) B e sz (.slice (some ⟨w.heap.size, 0, none⟩) n n) n cs.toList :=
  ⟨by simpa using hs, .inr ⟨w.heap.size, 0, n, cs, rfl, hb, heap_alloc_new w _, Nat.le_refl _, hm, by omega, by rw [← hs, List.drop_zero]; exact List.take_of_length_le (by simp)⟩⟩

section
variable {P : Program} (w : World)
/-- 'append(v, src...)': v a row of the call's own, src whatever can be read. -/
theorem run_append_row (B : Nat) (t ty e : TypeId) (i : TypeInfo) (z : Value) (sz bytes : Nat) (ht : P.underlying t = some (.slice e)) (hi : P.info? e = some i) (hz : i.zero = some z)
    (hsize : i.size = sz) (hby : i.bytes = bytes) (hzs : z.cells.size = sz) (hsz : 0 < sz)
    (v : Value) (n : Nat) (xs : List Value) (hown : Row w B e sz v n xs)
    (A : Option Addr) (m c : Nat) (news : List Value) (hl : news.length = m * sz) (hnews : Rd w A news) (h1 : ∀ u ∈ news, u.oneCell' = true)
    (hbytes : (n + m) * bytes ≤ 140737488355328) (h63 : n + m ≤ maxLen) (hB : B ≤ w.heap.size) :
    ∃ v' w', (Builtin.append_ #[t, t] ty #[v, .slice A m c]).run P w = .ok v' w' ∧ Row w' B e sz v' (n + m) (xs ++ news) ∧ w.grownBy w' v.ownBlock ∧
      (v'.ownBlock = v.ownBlock ∨ v'.ownBlock = some w.heap.size) := by
  subst hsize
  subst hby
  have hsmall : n + m ≤ 9223372036854775807 := by simp only [maxLen] at h63; omega
  have hlen : (xs ++ news).length = (n + m) * i.size := by rw [List.length_append, hown.1, hl, Nat.add_mul]
  have grown : ∀ (old : Nat), old < n + m → ∀ (row : Option Nat),
      Row (w.drew.alloc (.cells (xs.toArray ++ news.toArray ++ Builtin.zeroCells z.cells (grownCap w (n + m) old e - (n + m))) e)) B e i.size
        (.slice (some ⟨w.heap.size, 0, none⟩) (n + m) (grownCap w (n + m) old e)) (n + m) (xs ++ news) ∧
      w.grownBy (w.drew.alloc (.cells (xs.toArray ++ news.toArray ++ Builtin.zeroCells z.cells (grownCap w (n + m) old e - (n + m))) e)) row := by
    intro old ho row
    have hge := grownCap_ge w (n + m) old e
    have hcm : grownCap w (n + m) old e ≤ maxLen := grownCap_le_maxLen w (n + m) old e h63
    refine ⟨⟨hlen, .inr ⟨w.heap.size, 0, _, _, rfl, hB, heap_alloc_new w.drew _, hge, hcm, ?_, ?_⟩⟩, ⟨rfl, rfl, rfl, by simp, fun k hk _ => Below.heap_alloc w.drew _ k hk⟩⟩
    · simp only [Array.size_append, List.size_toArray, size_zeroCells, hzs, hown.1, hl, ← Nat.add_mul]
      rw [Nat.zero_add]
      exact Nat.le_of_eq (by congr 1; omega)
    · simp only [Array.toList_append, List.append_assoc, List.drop_zero]
      rw [← List.append_assoc, ← hlen]
      exact List.take_left
  cases A with
  | none =>
    have hn0 : news = [] := by
      cases news with
      | nil => rfl
      | cons x r => obtain ⟨b, off, e, _⟩ := hnews 0 x rfl; cases e
    subst hn0
    have hm0 : m = 0 := by
      have : m * i.size = 0 := by simpa using hl.symm
      rcases Nat.mul_eq_zero.1 this with h | h
      · exact h
      · omega
    subst hm0
    refine ⟨v, w, ?_, by simpa using hown, ⟨rfl, rfl, rfl, Nat.le_refl _, fun _ _ _ => rfl⟩, .inl rfl⟩
    rcases hown.2 with ⟨rfl, rfl⟩ | ⟨g, off, cap, cur, rfl, _, _, hnc, _⟩
    · simp [Builtin.append_, run_underlying ht, sizeOf, typeInfo, hi, Builtin.lenOf, Builtin.firstCells]
    · simp [Builtin.append_, run_underlying ht, sizeOf, typeInfo, hi, Builtin.lenOf, Builtin.firstCells, hnc, storeCells]
  | some a =>
    have hnews' : ∀ j u, news[j]? = some u → w.cell? (a.add j) = some u := by
      intro j u hj
      obtain ⟨b, off, e, hc⟩ := hnews j u hj
      cases e
      have hplain : (⟨b, off, none⟩ : Addr).add j = ⟨b, off + j, none⟩ := by unfold Addr.add; split <;> simp_all
      rw [hplain]; exact hc
    rcases hown.2 with ⟨rfl, rfl⟩ | ⟨g, off, cap, cur, rfl, hbg, hg, hnc, hcm, hcs, htake⟩
    · have hx : xs = [] := List.eq_nil_of_length_eq_zero (by simpa using hown.1)
      subst hx
      by_cases hm : m = 0
      · subst hm
        have hn : news = [] := List.eq_nil_of_length_eq_zero (by simpa using hl)
        subst hn
        refine ⟨.slice none 0 0, w, ?_, Row.nil w B e i.size, ⟨rfl, rfl, rfl, Nat.le_refl _, fun _ _ _ => rfl⟩, .inl rfl⟩
        simp [Builtin.append_, run_underlying ht, sizeOf, typeInfo, hi, Builtin.lenOf, Builtin.firstCells, loadCells, loadCellsFrom]
      · have hr := run_append_nil (P := P) w t ty e i z ht hi hz a m c news hl hnews' (by omega) (by omega) (by have hb := hbytes; simp only [Nat.zero_add] at hb; omega)
        have hgr := grown 0 (by omega) (Value.ownBlock (.slice none 0 0))
        simp only [Nat.zero_add, List.nil_append, Array.empty_append] at hgr ⊢
        exact ⟨_, _, hr, hgr.1, hgr.2, .inr rfl⟩
    · have holds : ∀ j u, xs[j]? = some u → w.cell? ((⟨g, off, none⟩ : Addr).add j) = some u := by
        intro j u hj
        have hplain : (⟨g, off, none⟩ : Addr).add j = ⟨g, off + j, none⟩ := by unfold Addr.add; split <;> simp_all
        rw [hplain, cell_of_row w g (off + j) cur e (0, 0) hg]
        rw [← htake, List.getElem?_take] at hj
        split at hj
        · rw [List.getElem?_drop] at hj; simpa using hj
        · cases hj
      by_cases hroom : n + m ≤ cap
      · have hfit : off + n * i.size + news.length ≤ cur.size := by
          have : (n + m) * i.size ≤ cap * i.size := Nat.mul_le_mul_right _ hroom
          rw [Nat.add_mul] at this
          omega
        have hf := run_firstCells_some (P := P) w i.size m a m c news hl hnews'
        have hst := run_storeCells_at P g (off + n * i.size) e news 0 cur w hg (by simpa using hfit) h1
        simp only [Nat.add_zero] at hst
        have hr : (Builtin.append_ #[t, t] ty #[.slice (some ⟨g, off, none⟩) n cap, .slice (some a) m c]).run P w = .ok (.slice (some ⟨g, off, none⟩) (n + m) cap) (w.setRow g (cur.toList.take (off + n * i.size) ++ news ++ cur.toList.drop (off + n * i.size + news.length)).toArray) := by
          simp [Builtin.append_, run_underlying ht, sizeOf, typeInfo, hi, Builtin.lenOf, hroom, hf, Addr.add_lit, hst]
        refine ⟨.slice (some ⟨g, off, none⟩) (n + m) cap, _, hr, ⟨hlen, .inr ⟨g, off, cap, _, rfl, hbg, setRow_heap w g cur _ e _ hg, hroom, hcm, ?_, ?_⟩⟩, ⟨rfl, rfl, rfl, by simp, fun k _ hk => setRow_other w g k _ (fun e => hk (by simp [Value.ownBlock, e]))⟩, .inl rfl⟩
        · simp only [List.size_toArray, List.length_append, List.length_take, List.length_drop, Array.length_toList]
          omega
        · rw [List.append_assoc, List.drop_append_of_le_length (by simp; omega), List.drop_take, show off + n * i.size - off = n * i.size by omega, htake, ← List.append_assoc, ← hlen]
          exact List.take_left
      · have hr := run_append_grow (P := P) w t ty e i z ht hi hz ⟨g, off, none⟩ n cap xs hown.1 holds a m c news hl hnews' (by omega) (by omega) (growslice_fits (by omega) hbytes)
        have hgr := grown cap (by omega) (Value.ownBlock (.slice (some ⟨g, off, none⟩) n cap))
        exact ⟨_, _, hr, hgr.1, hgr.2, .inr rfl⟩
/-- The same, as the walk takes it. -/
theorem wpList_append_row {ops : Array Oper} {rest : List Oper} {o : Oper} {a : Act} {Q : Exit → Act → World → Prop} (hgd : o.guard = none) (s x : Operand) (t : TypeId)
    (ho : o.op = .call { callee := .builtin .append, args := #[s, x], argTypes := #[t, t] })
    (B : Nat) (e : TypeId) (sz bytes : Nat) (z : Value) (ht : P.underlying t = some (.slice e)) (hinfo : (P.info? e).map (fun i => (i.zero, i.size, i.bytes)) = some (some z, sz, bytes)) (hzs : z.cells.size = sz) (hsz : 0 < sz)
    (v : Value) (n : Nat) (xs : List Value) (hs : a.eval s = v) (hown : Row w B e sz v n xs)
    (A : Option Addr) (m c : Nat) (news : List Value) (hx : a.eval x = .slice A m c) (hl : news.length = m * sz) (hnews : Rd w A news) (h1 : ∀ u ∈ news, u.oneCell' = true)
    (hbytes : (n + m) * bytes ≤ 140737488355328) (h63 : n + m ≤ maxLen) (hB : B ≤ w.heap.size)
    (h : ∀ A' c' w', Row w' B e sz (.slice A' (n + m) c') (n + m) (xs ++ news) → w.grownBy w' v.ownBlock → ((Value.slice A' (n + m) c').ownBlock = v.ownBlock ∨ (Value.slice A' (n + m) c').ownBlock = some w.heap.size) → wpList P ops Q rest (a.put o.dst (.slice A' (n + m) c')) w') : wpList P ops Q (o :: rest) a w := by
  obtain ⟨i, hi, hz0, hz1, hz2⟩ := info_parts hinfo
  obtain ⟨v', w', hr, h2, h3, h4⟩ := run_append_row (P := P) w B t o.type e i z sz bytes ht hi hz0 hz1 hz2 hzs hsz v n xs hown A m c news hl hnews h1 hbytes h63 hB
  refine wpList_plain hgd fun K hK => ?_
  unfold Oper.wp execOp
  simp only [ho, resolve, invoke, builtin, Sem.run_bind, Sem.run_pure, Result.andThen_ok, List.map_toArray, List.map_cons, List.map_nil, hs, hx, hr]
  obtain ⟨A', c', rfl, _⟩ := h2.rd
  exact hK _ _ (h A' c' w' h2 h3 h4)
end
/-- The same, at a step of a region that draws its order. -/
theorem step_append_row {P : Program} (w : World) {ops : Array Oper} {o : Oper} {a : Act} {K : Act → World → Prop} {Q : Exit → Act → World → Prop} {E : Prop} (hgd : o.guard = none) (s x : Operand) (t : TypeId)
    (ho : o.op = .call { callee := .builtin .append, args := #[s, x], argTypes := #[t, t] })
    (B : Nat) (e : TypeId) (sz bytes : Nat) (z : Value) (ht : P.underlying t = some (.slice e)) (hinfo : (P.info? e).map (fun i => (i.zero, i.size, i.bytes)) = some (some z, sz, bytes)) (hzs : z.cells.size = sz) (hsz : 0 < sz)
    (v : Value) (n : Nat) (xs : List Value) (hs : a.eval s = v) (hown : Row w B e sz v n xs)
    (A : Option Addr) (m c : Nat) (news : List Value) (hx : a.eval x = .slice A m c) (hl : news.length = m * sz) (hnews : Rd w A news) (h1 : ∀ u ∈ news, u.oneCell' = true)
    (hbytes : (n + m) * bytes ≤ 140737488355328) (h63 : n + m ≤ maxLen) (hB : B ≤ w.heap.size)
    (h : ∀ A' c' w', Row w' B e sz (.slice A' (n + m) c') (n + m) (xs ++ news) → w.grownBy w' v.ownBlock → ((Value.slice A' (n + m) c').ownBlock = v.ownBlock ∨ (Value.slice A' (n + m) c').ownBlock = some w.heap.size) → K (a.put o.dst (.slice A' (n + m) c')) w') :
    if Region.wanted o (yielded ops a.tmps) = true then Oper.wp P o a w K Q else E := by
  have hw : Region.wanted o (yielded ops a.tmps) = true := by simp [Region.wanted, hgd]
  rw [if_pos hw]
  obtain ⟨i, hi, hz0, hz1, hz2⟩ := info_parts hinfo
  obtain ⟨v', w', hr, h2, h3, h4⟩ := run_append_row (P := P) w B t o.type e i z sz bytes ht hi hz0 hz1 hz2 hzs hsz v n xs hown A m c news hl hnews h1 hbytes h63 hB
  unfold Oper.wp execOp
  simp only [ho, resolve, invoke, builtin, Sem.run_bind, Sem.run_pure, Result.andThen_ok, List.map_toArray, List.map_cons, List.map_nil, hs, hx, hr]
  obtain ⟨A', c', rfl, _⟩ := h2.rd
  exact h A' c' w' h2 h3 h4
theorem Rd.new1 (w : World) (u : Value) (e : TypeId) : Rd (w.alloc (.cells #[u] e)) (some ⟨w.heap.size, 0, none⟩) [u] := by
  intro k x hk
  match k, hk with
  | 0, hk => simp at hk; subst hk; exact ⟨_, _, rfl, by simp⟩
  | k + 1, hk => simp at hk

theorem run_loadCells_rd {P : Program} {w : World} {a : Addr} {xs : List Value} (h : Rd w (some a) xs) : (loadCells a xs.length).run P w = .ok xs.toArray w := by
  refine run_loadCells_list (P := P) w a xs fun j u hj => ?_
  obtain ⟨b, off, e, hc⟩ := h j u hj
  cases e
  have hplain : (⟨b, off, none⟩ : Addr).add j = ⟨b, off + j, none⟩ := by unfold Addr.add; split <;> simp_all
  rw [hplain]; exact hc
/-- 'string(runes)'. -/
theorem run_runes {P : Program} (w : World) (src e dst : TypeId) (hs : P.underlying src = some (.slice e)) (he : P.underlying e = some (.int .i32)) (hd : P.underlying dst = some .string)
    (A : Option Addr) (ns : List Int) (n c : Nat) (hn : n = ns.length) (h : Rd w A (ns.map (Value.int .i32))) :
    (convert src dst (.slice A n c)).run P w = .ok (.string (runesBytes ns)) w := by
  subst hn
  cases A with
  | none =>
    have : ns = [] := by
      cases ns with
      | nil => rfl
      | cons x t => obtain ⟨_, _, e, _⟩ := h 0 _ rfl; cases e
    subst this
    rw [run_convert_runes_nil w src dst e _ _ hs he hd]; rfl
  | some a =>
    rw [run_convert_runes_string w src dst e _ _ _ hs he hd]
    apply run_runesToString
    have := run_loadCells_rd (P := P) h
    simpa using this
theorem runesBytes_toList (ns : List Int) : (runesBytes ns).data.toList = ns.flatMap fun n => bl (Utf8.encode n) := by
  have key : ∀ (ns : List Int) (s : ByteArray), (ns.foldl (fun r n => r ++ Utf8.encode n) s).data.toList = s.data.toList ++ ns.flatMap fun n => bl (Utf8.encode n) := by
    intro ns
    induction ns with
    | nil => intro s; simp
    | cons n ns ih => intro s; rw [List.foldl_cons, ih]; simp [List.flatMap_cons, ByteArray.data_append, bl]
  have := key ns ByteArray.empty
  simpa [runesBytes] using this
theorem runesBytes_nat (rs : List Nat) : runesBytes (rs.map (fun n : Nat => (n : Int))) = ⟨(rs.flatMap enc).toArray⟩ := by
  rw [← ba_eq (runesBytes _), runesBytes_toList]
  simp only [List.flatMap_map]
  rfl

/-! What a call leaves as it was. -/
/-- Only the blocks of S, of those that were, may have turned. -/
structure Fr (S : Nat → Prop) (w w' : World) : Prop where
  os : w'.os = w.os
  tape : w'.tape = w.tape
  output : w'.output = w.output
  size : w.heap.size ≤ w'.heap.size
  block : ∀ k, k < w.heap.size → ¬ S k → w'.heap[k]? = w.heap[k]?
theorem Fr.refl (S : Nat → Prop) (w : World) : Fr S w w := ⟨rfl, rfl, rfl, Nat.le_refl _, fun _ _ _ => rfl⟩
theorem Fr.trans {S S' : Nat → Prop} {a b c : World} (h : Fr S a b) (k : Fr S' b c) (hs : ∀ i, i < a.heap.size → S' i → S i) : Fr S a c :=
  ⟨k.os.trans h.os, k.tape.trans h.tape, k.output.trans h.output, Nat.le_trans h.size k.size,
    fun i hi hn => (k.block i (Nat.lt_of_lt_of_le hi h.size) (fun e => hn (hs i hi e))).trans (h.block i hi hn)⟩
theorem Fr.mono {S S' : Nat → Prop} {a b : World} (h : Fr S a b) (hs : ∀ i, i < a.heap.size → S i → S' i) : Fr S' a b :=
  ⟨h.os, h.tape, h.output, h.size, fun i hi hn => h.block i hi (fun e => hn (hs i hi e))⟩
theorem Fr.of_below {B : Nat} {w w' : World} (h : Below B w w') : Fr (fun k => B ≤ k) w w' := ⟨h.os, h.tape, h.output, h.size, fun k _ hn => h.block k (by omega)⟩
theorem Fr.of_fresh {S : Nat → Prop} {w w' : World} (h : Below w.heap.size w w') : Fr S w w' := ⟨h.os, h.tape, h.output, h.size, fun k hk _ => h.block k hk⟩
theorem Fr.of_grown {w w' : World} {row : Option Nat} (h : w.grownBy w' row) : Fr (fun k => row = some k) w w' := ⟨h.os, h.tape, h.output, h.size, fun k hk hn => h.block k hk (fun e => hn e.symm)⟩
theorem Fr.below {S : Nat → Prop} {w w' : World} (h : Fr S w w') {B : Nat} (hB : B ≤ w.heap.size) (hs : ∀ k, k < w.heap.size → S k → B ≤ k) : Below B w w' :=
  ⟨h.os, h.tape, h.output, h.size, fun k hk => h.block k (by omega) (fun e => by have := hs k (by omega) e; omega)⟩
theorem Fr.alloc {S : Nat → Prop} (w : World) (o : Obj) : Fr S w (w.alloc o) := .of_fresh ((Below.refl _ _).alloc (Nat.le_refl _) o)
theorem Fr.setCell (w : World) (a : Addr) (u : Value) : Fr (fun k => k = a.block) w (w.setCell a u) :=
  ⟨rfl, rfl, rfl, by simp [World.setCell], fun k _ hn => Below.heap_setCell _ _ _ _ hn⟩
theorem Fr.iterAt (w : World) (k : Nat) (s : ByteArray) (p : Nat) : Fr (fun i => i = k) w (w.iterAt k s p) :=
  ⟨rfl, rfl, rfl, by rw [Lib.iterAt_size]; exact Nat.le_refl _, fun i _ hn => Lib.iterAt_other w k i s p hn⟩
theorem Fr.drew {S : Nat → Prop} {a w : World} (h : Fr S a w) : Fr S a w.drew := ⟨h.os, h.tape, h.output, h.size, h.block⟩
theorem Fr.drewN {S : Nat → Prop} {a w : World} (h : Fr S a w) (n : Nat) : Fr S a (w.drewN n) := ⟨h.os, h.tape, h.output, h.size, h.block⟩
theorem Row.fr {w w' : World} {B : Nat} {e : TypeId} {sz : Nat} {v : Value} {n : Nat} {xs : List Value} {S : Nat → Prop} (h : Row w B e sz v n xs) (hf : Fr S w w') (hn : ∀ k, v.ownBlock = some k → ¬ S k) : Row w' B e sz v n xs :=
  h.at_ fun k hk => hf.block k (h.lt k hk).2 (hn k hk)
theorem Rd.fr {w w' : World} {A : Option Addr} {xs : List Value} {S : Nat → Prop} (h : Rd w A xs) (hf : Fr S w w') (hn : ∀ a, A = some a → xs ≠ [] → ¬ S a.block) : Rd w' A xs := by
  intro k u hk
  obtain ⟨b, off, e, hc⟩ := h k u hk
  have hx : xs ≠ [] := by intro e2; subst e2; simp at hk
  refine ⟨b, off, e, ?_⟩
  rw [World.cell?_of_block (w := w) (hf.block b (h.lt e hx) (hn _ e hx))]
  exact hc
theorem Fr.heap {S : Nat → Prop} {w w' : World} (hf : Fr S w w') {k : Nat} {o : Obj} (h : w.heap[k]? = some o) (hn : ¬ S k) : w'.heap[k]? = some o :=
  (hf.block k (Array.getElem?_eq_some_iff.1 h).1 hn).trans h
theorem lt_of_heap {w : World} {k : Nat} {o : Obj} (h : w.heap[k]? = some o) : k < w.heap.size := (Array.getElem?_eq_some_iff.1 h).1
/-- A row, sliced from k on: its value as the machine writes it. -/
theorem Row.from_ {w : World} {B : Nat} {e : TypeId} {v : Value} {n : Nat} {xs : List Value} (h : Row w B e 1 v n xs) {A : Option Addr} {c : Nat} (hv : v = .slice A n c) (k : Nat) (hk : k ≤ n) :
    Row w B e 1 (.slice (if c = k then A else A.map (fun x => x.add k)) (n - k) (c - k)) (n - k) (xs.drop k) := by
  subst hv
  refine ⟨by simp [h.1], ?_⟩
  rcases h.2 with ⟨hv, rfl⟩ | ⟨g, off, cap, cur, hv, hb, hg, hn, hm, hs, ht⟩
  · cases hv
    have : k = 0 := by omega
    subst this
    exact .inl ⟨by simp, rfl⟩
  · cases hv
    right
    by_cases hck : c = k
    · rw [if_pos hck]
      have : n = k := by omega
      subst this
      refine ⟨g, off, c - n, cur, by rw [Nat.sub_self], hb, hg, by omega, by omega, by omega, ?_⟩
      rw [Nat.sub_self, Nat.zero_mul, List.take_zero, List.drop_of_length_le (by rw [h.1]; omega)]
    · rw [if_neg hck]
      refine ⟨g, off + k, c - k, cur, ?_, hb, hg, by omega, by omega, by omega, ?_⟩
      · by_cases h0 : k = 0
        · subst h0; simp [Addr.add]
        · simp [Addr.add, h0]
      · rw [← ht, List.drop_take, List.drop_drop, Nat.mul_one, Nat.mul_one]
theorem ownBlock_from {A : Option Addr} {n c k : Nat} : (Value.slice (if c = k then A else A.map (fun x => x.add k)) (n - k) (c - k)).ownBlock = (Value.slice A n c).ownBlock := by
  cases A with
  | none => split <;> rfl
  | some a =>
    split
    · rfl
    · simp only [Option.map, Value.ownBlock, Addr.add]; split <;> rfl

theorem ownB (A : Option Addr) (n c : Nat) : (Value.slice A n c).ownBlock = A.map (·.block) := by cases A <;> rfl
/-! Behind 'append(v, x)': a block for x, then the append. -/
theorem app_heap {W w1 : World} {o ob : Obj} {row : Option Nat} {g : Nat} (hg : (W.alloc o).grownBy w1 row) (h : W.heap[g]? = some ob) (hne : row ≠ some g) : w1.heap[g]? = some ob := by
  have hlt := lt_of_heap h
  exact (hg.block g (by simp; omega) (fun e => hne e.symm)).trans ((Below.heap_alloc W _ g hlt).trans h)
theorem app_row {W w1 : World} {o : Obj} {row : Option Nat} {B : Nat} {e : TypeId} {sz : Nat} {v : Value} {n : Nat} {xs : List Value} (hg : (W.alloc o).grownBy w1 row) (h : Row W B e sz v n xs) (hne : ∀ k, v.ownBlock = some k → row ≠ some k) : Row w1 B e sz v n xs :=
  (h.alloc o).fr (Fr.of_grown hg) fun k hk => hne k hk
theorem app_fr {S : Nat → Prop} {w W w1 : World} {o : Obj} {row : Option Nat} (h : Fr S w W) (hg : (W.alloc o).grownBy w1 row) (hs : ∀ k, row = some k → k < w.heap.size → S k) : Fr S w w1 :=
  (h.trans (Fr.alloc W o) (fun _ _ e => e)).trans (Fr.of_grown hg) fun i hi e => hs i e hi
theorem app_below {D : Nat} {w W w1 : World} {o : Obj} {row : Option Nat} (h : Below D w W) (hD : D ≤ W.heap.size) (hg : (W.alloc o).grownBy w1 row) (hs : ∀ k, row = some k → D ≤ k) : Below D w w1 :=
  (h.alloc hD o).grown hg (by simp; omega) hs
end Go.Proofs.YtfgjhfmgacopoaaDoor
namespace Go.Proofs.YtfgjhfmgacopoaaDoor
open Go.RowKit
theorem wpList_wanted {P : Program} {ops : Array Oper} {Q : Exit → Act → World → Prop} {a : Act} {w : World} {rest : List Oper} {o : Oper} (hw : Region.wanted o (yielded ops a.tmps) = true)
    (h : ∀ K : Act → World → Prop, (∀ a w, wpList P ops Q rest a w → K a w) → o.wp P a w K Q) : wpList P ops Q (o :: rest) a w :=
  wpList_step fun K hK => by simp only [hw, if_true]; exact h K hK
/-- 'append' of an operation that is guarded, and wanted. -/
theorem wpList_append_rowG {P : Program} (w : World) {ops : Array Oper} {rest : List Oper} {o : Oper} {a : Act} {Q : Exit → Act → World → Prop} (hgd : Region.wanted o (yielded ops a.tmps) = true) (s x : Operand) (t : TypeId)
    (ho : o.op = .call { callee := .builtin .append, args := #[s, x], argTypes := #[t, t] })
    (B : Nat) (e : TypeId) (sz bytes : Nat) (z : Value) (ht : P.underlying t = some (.slice e)) (hinfo : (P.info? e).map (fun i => (i.zero, i.size, i.bytes)) = some (some z, sz, bytes)) (hzs : z.cells.size = sz) (hsz : 0 < sz)
    (v : Value) (n : Nat) (xs : List Value) (hs : a.eval s = v) (hown : Row w B e sz v n xs)
    (A : Option Addr) (m c : Nat) (news : List Value) (hx : a.eval x = .slice A m c) (hl : news.length = m * sz) (hnews : Rd w A news) (h1 : ∀ u ∈ news, u.oneCell' = true)
    (hbytes : (n + m) * bytes ≤ 140737488355328) (h63 : n + m ≤ maxLen) (hB : B ≤ w.heap.size)
    (h : ∀ A' c' w', Row w' B e sz (.slice A' (n + m) c') (n + m) (xs ++ news) → w.grownBy w' v.ownBlock → ((Value.slice A' (n + m) c').ownBlock = v.ownBlock ∨ (Value.slice A' (n + m) c').ownBlock = some w.heap.size) → wpList P ops Q rest (a.put o.dst (.slice A' (n + m) c')) w') : wpList P ops Q (o :: rest) a w := by
  obtain ⟨i, hi, hz0, hz1, hz2⟩ := info_parts hinfo
  obtain ⟨v', w', hr, h2, h3, h4⟩ := run_append_row (P := P) w B t o.type e i z sz bytes ht hi hz0 hz1 hz2 hzs hsz v n xs hown A m c news hl hnews h1 hbytes h63 hB
  refine wpList_wanted hgd fun K hK => ?_
  unfold Oper.wp execOp
  simp only [ho, resolve, invoke, builtin, Sem.run_bind, Sem.run_pure, Result.andThen_ok, List.map_toArray, List.map_cons, List.map_nil, hs, hx, hr]
  obtain ⟨A', c', rfl, _⟩ := h2.rd
  exact hK _ _ (h A' c' w' h2 h3 h4)
end Go.Proofs.YtfgjhfmgacopoaaDoor
namespace Go.Proofs.YtfgjhfmgacopoaaDoor
open Go.RowKit
/-! 'append' to a row of the call's own, once more: the row that was is still there. -/
theorem run_append_keep {P : Program} (w : World) (B : Nat) (t ty e : TypeId) (i : TypeInfo) (z : Value) (sz bytes : Nat) (ht : P.underlying t = some (.slice e)) (hi : P.info? e = some i) (hz : i.zero = some z)
    (hsize : i.size = sz) (hby : i.bytes = bytes) (hzs : z.cells.size = sz) (hsz : 0 < sz)
    (v : Value) (n : Nat) (xs : List Value) (hown : Row w B e sz v n xs)
    (A : Option Addr) (m c : Nat) (news : List Value) (hl : news.length = m * sz) (hnews : Rd w A news) (h1 : ∀ u ∈ news, u.oneCell' = true)
    (hbytes : (n + m) * bytes ≤ 140737488355328) (h63 : n + m ≤ maxLen) (hB : B ≤ w.heap.size) :
    ∃ v' w', (Builtin.append_ #[t, t] ty #[v, .slice A m c]).run P w = .ok v' w' ∧ Row w' B e sz v' (n + m) (xs ++ news) ∧ w.grownBy w' v.ownBlock ∧
      (v'.ownBlock = v.ownBlock ∨ v'.ownBlock = some w.heap.size) ∧ Row w' B e sz v n xs := by
  obtain ⟨v', w', hr, h2, h3, h4⟩ := run_append_row (P := P) w B t ty e i z sz bytes ht hi hz hsize hby hzs hsz v n xs hown A m c news hl hnews h1 hbytes h63 hB
  refine ⟨v', w', hr, h2, h3, h4, ?_⟩
  refine ⟨hown.1, ?_⟩
  rcases hown.2 with hn | ⟨g, off, cap, cur, rfl, hbg, hg, hnc, hcm, hcs, htake⟩
  · exact .inl hn
  · right
    subst hsize
    have key : ∃ cur', w'.heap[g]? = some (.cells cur' e (0, 0)) ∧ cur'.size = cur.size ∧ cur'.toList.take (off + n * i.size) = cur.toList.take (off + n * i.size) := by
      cases A with
      | none =>
        have hn0 : news = [] := by
          cases news with
          | nil => rfl
          | cons x r => obtain ⟨b, off, e, _⟩ := hnews 0 x rfl; cases e
        subst hn0
        have hm0 : m = 0 := by
          have : m * i.size = 0 := by simpa using hl.symm
          rcases Nat.mul_eq_zero.1 this with h | h
          · exact h
          · omega
        subst hm0
        have : (Builtin.append_ #[t, t] ty #[.slice (some ⟨g, off, none⟩) n cap, .slice none 0 c]).run P w = .ok (.slice (some ⟨g, off, none⟩) n cap) w := by
          simp [Builtin.append_, run_underlying ht, sizeOf, typeInfo, hi, Builtin.lenOf, Builtin.firstCells, hnc, storeCells]
        rw [this] at hr
        cases hr
        exact ⟨cur, hg, rfl, rfl⟩
      | some a =>
        have hnews' : ∀ j u, news[j]? = some u → w.cell? (a.add j) = some u := by
          intro j u hj
          obtain ⟨b, off, e, hc⟩ := hnews j u hj
          cases e
          have hplain : (⟨b, off, none⟩ : Addr).add j = ⟨b, off + j, none⟩ := by unfold Addr.add; split <;> simp_all
          rw [hplain]; exact hc
        have holds : ∀ j u, xs[j]? = some u → w.cell? ((⟨g, off, none⟩ : Addr).add j) = some u := by
          intro j u hj
          have hplain : (⟨g, off, none⟩ : Addr).add j = ⟨g, off + j, none⟩ := by unfold Addr.add; split <;> simp_all
          rw [hplain, cell_of_row w g (off + j) cur e (0, 0) hg]
          rw [← htake, List.getElem?_take] at hj
          split at hj
          · rw [List.getElem?_drop] at hj; simpa using hj
          · cases hj
        by_cases hroom : n + m ≤ cap
        · have hfit : off + n * i.size + news.length ≤ cur.size := by
            have : (n + m) * i.size ≤ cap * i.size := Nat.mul_le_mul_right _ hroom
            rw [Nat.add_mul] at this
            omega
          have hf := run_firstCells_some (P := P) w i.size m a m c news hl hnews'
          have hst := run_storeCells_at P g (off + n * i.size) e news 0 cur w hg (by simpa using hfit) h1
          simp only [Nat.add_zero] at hst
          have hr2 : (Builtin.append_ #[t, t] ty #[.slice (some ⟨g, off, none⟩) n cap, .slice (some a) m c]).run P w = .ok (.slice (some ⟨g, off, none⟩) (n + m) cap) (w.setRow g (cur.toList.take (off + n * i.size) ++ news ++ cur.toList.drop (off + n * i.size + news.length)).toArray) := by
            simp [Builtin.append_, run_underlying ht, sizeOf, typeInfo, hi, Builtin.lenOf, hroom, hf, Addr.add_lit, hst]
          rw [hr2] at hr
          cases hr
          refine ⟨_, setRow_heap w g cur _ e _ hg, ?_, ?_⟩
          · simp only [List.size_toArray, List.length_append, List.length_take, List.length_drop, Array.length_toList]
            omega
          · rw [List.append_assoc]
            exact List.take_left' (by rw [List.length_take, Array.length_toList]; omega)
        · have hr2 := run_append_grow (P := P) w t ty e i z ht hi hz ⟨g, off, none⟩ n cap xs hown.1 holds a m c news hl hnews' (by omega) (by simp only [maxLen] at h63; omega) (growslice_fits (by omega) (by subst hby; exact hbytes))
          rw [hr2] at hr
          cases hr
          exact ⟨cur, (Below.heap_alloc w.drew _ g (lt_of_heap hg)).trans hg, rfl, rfl⟩
    obtain ⟨cur', k1, k2, k3⟩ := key
    refine ⟨g, off, cap, cur', rfl, hbg, k1, hnc, hcm, by omega, ?_⟩
    rw [← htake, List.take_drop, List.take_drop, k3]
/-- The same, at a step of a region that draws its order. -/
theorem step_append_keep {P : Program} (w : World) {ops : Array Oper} {o : Oper} {a : Act} {K : Act → World → Prop} {Q : Exit → Act → World → Prop} {E : Prop} (hgd : o.guard = none) (s x : Operand) (t : TypeId)
    (ho : o.op = .call { callee := .builtin .append, args := #[s, x], argTypes := #[t, t] })
    (B : Nat) (e : TypeId) (sz bytes : Nat) (z : Value) (ht : P.underlying t = some (.slice e)) (hinfo : (P.info? e).map (fun i => (i.zero, i.size, i.bytes)) = some (some z, sz, bytes)) (hzs : z.cells.size = sz) (hsz : 0 < sz)
    (v : Value) (n : Nat) (xs : List Value) (hs : a.eval s = v) (hown : Row w B e sz v n xs)
    (A : Option Addr) (m c : Nat) (news : List Value) (hx : a.eval x = .slice A m c) (hl : news.length = m * sz) (hnews : Rd w A news) (h1 : ∀ u ∈ news, u.oneCell' = true)
    (hbytes : (n + m) * bytes ≤ 140737488355328) (h63 : n + m ≤ maxLen) (hB : B ≤ w.heap.size)
    (h : ∀ A' c' w', Row w' B e sz (.slice A' (n + m) c') (n + m) (xs ++ news) → w.grownBy w' v.ownBlock → ((Value.slice A' (n + m) c').ownBlock = v.ownBlock ∨ (Value.slice A' (n + m) c').ownBlock = some w.heap.size) → Row w' B e sz v n xs → K (a.put o.dst (.slice A' (n + m) c')) w') :
    if Region.wanted o (yielded ops a.tmps) = true then Oper.wp P o a w K Q else E := by
  have hw : Region.wanted o (yielded ops a.tmps) = true := by simp [Region.wanted, hgd]
  rw [if_pos hw]
  obtain ⟨i, hi, hz0, hz1, hz2⟩ := info_parts hinfo
  obtain ⟨v', w', hr, h2, h3, h4, h5⟩ := run_append_keep (P := P) w B t o.type e i z sz bytes ht hi hz0 hz1 hz2 hzs hsz v n xs hown A m c news hl hnews h1 hbytes h63 hB
  unfold Oper.wp execOp
  simp only [ho, resolve, invoke, builtin, Sem.run_bind, Sem.run_pure, Result.andThen_ok, List.map_toArray, List.map_cons, List.map_nil, hs, hx, hr]
  obtain ⟨A', c', rfl, _⟩ := h2.rd
  exact h A' c' w' h2 h3 h4 h5
end Go.Proofs.YtfgjhfmgacopoaaDoor
