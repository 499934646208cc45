import Derived.Test.YtfgjhfmgacopoaaDoorMem
import Derived.Deep.Slices
import Derived.Deep.Fields
import Derived.SizedLaws
import Derived.SliceStrings
import Derived.OpenShut
import Derived.Test.YtfgjhfmgacopoaaDoorProg
namespace Go.Proofs.YtfgjhfmgacopoaaDoor
set_option linter.unusedVariables false
set_option linter.unusedSimpArgs false
open Go.RowKit Go.ChangeShapes Go.WideShapes Go.Deep
/-! Slices of structs, of strings, that came in. -/
theorem exists_map {α β : Type} {f : α → β} {p : α → Prop} : (l : List β) → (∀ r ∈ l, ∃ o, r = f o ∧ p o) → ∃ os : List α, l = os.map f ∧ ∀ o ∈ os, p o
  | [], _ => ⟨[], rfl, fun _ h => by cases h⟩
  | r :: l, h => by
      obtain ⟨o, h1, h2⟩ := h r (List.mem_cons_self ..)
      obtain ⟨os, h3, h4⟩ := exists_map l fun x hx => h x (List.mem_cons_of_mem _ hx)
      refine ⟨o :: os, by rw [List.map_cons, ← h1, ← h3], fun x hx => ?_⟩
      rcases List.mem_cons.1 hx with e | e
      · rw [e]; exact h2
      · exact h4 x e
theorem rd_flat {w : World} {b sz : Nat} : (rows : List (List Value)) → (off : Nat) → (∀ (i : Nat) r, rows[i]? = some r → r.length = sz ∧ ∀ (j : Nat) u, r[j]? = some u → w.cell? ⟨b, off + i * sz + j, none⟩ = some u) →
    ∀ (k : Nat) u, rows.flatten[k]? = some u → w.cell? ⟨b, off + k, none⟩ = some u
  | [], _, _, k, u, hk => by simp at hk
  | r :: rs, off, h, k, u, hk => by
      obtain ⟨hl, h0⟩ := h 0 r rfl
      rw [List.flatten_cons] at hk
      by_cases hlt : k < r.length
      · rw [List.getElem?_append_left hlt] at hk
        simpa using h0 k u hk
      · rw [List.getElem?_append_right (by omega)] at hk
        have := rd_flat rs (off + sz) (fun i r' hi => by
          obtain ⟨a, c⟩ := h (i + 1) r' (by simpa using hi)
          refine ⟨a, fun j u hj => ?_⟩
          have := c j u hj
          rw [Nat.add_mul, Nat.one_mul, show off + (i * sz + sz) + j = off + sz + i * sz + j by omega] at this
          exact this) (k - r.length) u hk
        rw [show off + sz + (k - r.length) = off + k by omega] at this
        exact this
section
variable {H : Type} {enc : TypeId × Value → H} {P : Program} {w : World}
theorem weights_mem_all {e : TypeId} : {l : List (DataW H)} → {d : DataW H} → d ∈ l → ∀ n ∈ d.weights P e, n ∈ DataW.weightsAll P e l
  | x :: l, d, h, n, hn => by
      simp only [DataW.weightsAll, List.mem_append]
      rcases List.mem_cons.1 h with e | e
      · rw [← e]; exact .inl hn
      · exact .inr (weights_mem_all e n hn)
/-- What one cell that came in reads as. -/
def FieldIn (enc : TypeId × Value → H) (P : Program) (w : World) (t : TypeId) (v : Value) : Prop :=
  ∃ (n : Nat) (y : DataW H × List MemPlace), DataW.trod enc P w 0 (fun _ => true) true n t [v] = some y ∧ ∀ m ∈ y.1.weights P t, m ≤ reachBytes
theorem FieldIn.int {t : TypeId} {k : IntKind} {v : Value} (h : FieldIn enc P w t v) (ht : P.underlying t = some (.int k)) : ∃ n, v = .int k n ∧ (Lit.int k n).wf = true := by
  obtain ⟨n, y, h1, _⟩ := h
  obtain ⟨z, h2, _, h3⟩ := DataW.trod_int ht h1
  exact ⟨z, by simpa using h2, h3⟩
theorem FieldIn.string {t : TypeId} {v : Value} (h : FieldIn enc P w t v) (ht : P.underlying t = some .string) : ∃ s : ByteArray, v = .string s ∧ s.size ≤ 140737488351232 := by
  obtain ⟨n, y, h1, h4⟩ := h
  obtain ⟨z, h2, h3, _⟩ := DataW.trod_string ht h1
  refine ⟨z, by simpa using h2, ?_⟩
  have := h4 z.data.toList.length (by rw [h3]; simp [DataW.weights])
  rw [Array.length_toList] at this
  exact this
theorem FieldIn.bool {t : TypeId} {v : Value} (h : FieldIn enc P w t v) (ht : P.underlying t = some .bool) : ∃ b, v = .bool b := by
  obtain ⟨n, y, h1, _⟩ := h
  cases n with
  | zero => simp [DataW.trod] at h1
  | succ n =>
    unfold DataW.trod at h1
    rw [ht] at h1
    split at h1 <;> simp_all
/-- A slice of structs (fields of one cell each) that came in. -/
theorem in_rows {t e : TypeId} {fs : Array Field} {by_ : Nat} (ht : P.underlying t = some (.slice e)) (he : P.underlying e = some (.struct fs)) (hone : oneCellFields P fs = true) (hC : P.cellsOf e = fs.size) (hpos : 0 < fs.size) (hby : P.bytesOf e = by_)
    {r : Reach} {b0 : Nat} {v : Value} {d : DataW H} {p : List MemPlace} (hv : Value.okWide P w r b0 t v) (h : DataW.Trod enc P w 0 (fun _ => true) true t v d p) (hz : ∀ n ∈ d.weights P t, n ≤ reachBytes) :
    ∃ (A : Option Addr) (n c : Nat) (rows : List (List Value)), v = .slice A n c ∧ n ≤ c ∧ c ≤ maxLen ∧ c * by_ ≤ reachBytes ∧ rows.length = n ∧ Rd w A rows.flatten ∧
      ∀ r ∈ rows, r.length = fs.size ∧ ∀ (j : Nat) (f : Field) (x : Value), fs[j]? = some f → r[j]? = some x → FieldIn enc P w f.type x := by
  obtain ⟨A, n, c, rfl⟩ := okWide_slice ht hv
  obtain ⟨fuel, hf⟩ := h
  rcases open_slice ht hf with ⟨hcs, hx⟩ | ⟨a, len, cap, m, nn, D, Pl, hcs, hb, hl, hm, hmm, hx, hi⟩
  · simp [Value.cells] at hcs
    obtain ⟨rfl, rfl, rfl⟩ := hcs
    exact ⟨none, 0, 0, [], rfl, Nat.le_refl _, Nat.zero_le _, by simp, rfl, Rd.nil _ _, fun r h => by cases h⟩
  · simp [Value.cells] at hcs
    obtain ⟨rfl, rfl, rfl⟩ := hcs
    simp only [if_true] at hmm
    have hmm := hmm.symm
    subst hmm
    simp only [Prod.mk.injEq] at hx
    have hd := hx.1
    subst hd
    obtain ⟨R, hR⟩ := choose_lt (α := List Value) (p := fun i cs' => cs'.length = fs.size ∧ (∀ (j : Nat) u, cs'[j]? = some u → w.cell? (a.add (i * fs.size + j)) = some u) ∧ (i < n → ∀ (j : Nat) (f : Field) (x : Value), fs[j]? = some f → cs'[j]? = some x → FieldIn enc P w f.type x)) (fun i him => by
      obtain ⟨cs', hc, ht'⟩ := hi i him
      rw [hC] at hc
      obtain ⟨ys, n', hn', hy, hlen, hyl, hfl⟩ := DataW.trod_struct he ht'
      obtain ⟨_, hcl, hat⟩ := World.cells?_some hc
      refine ⟨cs', hcl, fun j u hj => ?_, fun hin j f x hj hx => ?_⟩
      · have hjl : j < fs.size := by rw [← hcl]; exact (List.getElem?_eq_some_iff.1 hj).1
        rw [← Go.Deep.add_add, hat j hjl, hj]
      · obtain ⟨ho, hk⟩ := hone_of hone j f hj
        have hjl : j < fs.size := (Array.getElem?_eq_some_iff.1 hj).1
        have h1 := hfl j f hj
        rw [ho, hk] at h1
        have hone' : (cs'.drop j).take 1 = [x] := by
          obtain ⟨hlt, hg⟩ := List.getElem?_eq_some_iff.1 hx
          rw [List.drop_eq_getElem_cons hlt, ← hg]; rfl
        rw [hone'] at h1
        have hys : ys[j]? = some (ys[j]'(by omega)) := List.getElem?_eq_getElem (by omega)
        refine ⟨n', _, h1.trans hys, fun k hkk => hz k ?_⟩
        simp only [DataW.weights, ht, List.mem_cons, List.mem_append]
        refine .inr (.inl (weights_mem_all (d := D i) (List.mem_map.2 ⟨i, List.mem_range.2 hin, rfl⟩) k ?_))
        simp only [Prod.mk.injEq] at hy
        rw [hy.1]
        simp only [DataW.weights, he]
        refine DataW.weights_mem_each (j := j) (t := f.type) (d := (ys[j]'(by omega)).1) ?_ ?_ k hkk
        · rw [List.getElem?_map, Array.getElem?_toList, hj]; rfl
        · rw [List.getElem?_map, hys]; rfl)
    have hbytes : c * by_ ≤ reachBytes := by
      have := hz ((((List.range n).map D).length + ((List.range (c - n)).map fun j => D (n + j)).length) * P.bytesOf e) (by simp only [DataW.weights, ht]; exact List.mem_cons_self ..)
      rw [hby] at this
      simp only [List.length_map, List.length_range] at this
      rwa [show n + (c - n) = c by omega] at this
    refine ⟨some a, n, c, (List.range n).map R, rfl, hl, hm, hbytes, by simp, ?_, fun r hr => ?_⟩
    · intro k u hk
      have hn0 : 0 < n := by
        rcases Nat.eq_zero_or_pos n with e | e
        · rw [e] at hk; simp at hk
        · exact e
      have hspot : a.spot = none := by
        obtain ⟨h1, h2, _⟩ := hR 0 (by omega)
        have h3 : (R 0)[0]? = some ((R 0)[0]'(by omega)) := List.getElem?_eq_getElem (by omega)
        have hc := h2 0 _ h3
        rw [Nat.zero_mul] at hc
        unfold World.cell? at hc
        simp only [Addr.add, Nat.add_zero, if_true] at hc
        split at hc
        · split at hc
          · cases hc
          · rename_i h; simpa using h
        · cases hc
      obtain ⟨b, off, spot⟩ := a
      dsimp only at hspot
      subst hspot
      refine ⟨b, off, rfl, rd_flat (sz := fs.size) _ off (fun i r hi => ?_) k u hk⟩
      rw [List.getElem?_map] at hi
      by_cases hin : i < n
      · rw [List.getElem?_range hin] at hi
        simp only [Option.map_some, Option.some.injEq] at hi
        subst hi
        obtain ⟨h1, h2, _⟩ := hR i (by omega)
        refine ⟨h1, fun j u hj => ?_⟩
        have hc := h2 j u hj
        have hp : (⟨b, off, none⟩ : Addr).add (i * fs.size + j) = ⟨b, off + i * fs.size + j, none⟩ := by unfold Addr.add; split <;> simp_all [Nat.add_assoc]
        rw [hp] at hc
        exact hc
      · rw [List.getElem?_eq_none (by simp; omega)] at hi
        cases hi
    · obtain ⟨i, hi, rfl⟩ := List.mem_map.1 hr
      have hin := List.mem_range.1 hi
      obtain ⟨h1, _, h3⟩ := hR i (by omega)
      exact ⟨h1, h3 hin⟩
/-- A slice of what takes one cell each, that came in. -/
theorem in_row1 {t e : TypeId} {by_ : Nat} (ht : P.underlying t = some (.slice e)) (hC : P.cellsOf e = 1) (hby : P.bytesOf e = by_)
    {r : Reach} {b0 : Nat} {v : Value} {d : DataW H} {p : List MemPlace} (hv : Value.okWide P w r b0 t v) (h : DataW.Trod enc P w 0 (fun _ => true) true t v d p) (hz : ∀ n ∈ d.weights P t, n ≤ reachBytes) :
    ∃ (A : Option Addr) (n c : Nat) (xs : List Value), v = .slice A n c ∧ n ≤ c ∧ c ≤ maxLen ∧ c * by_ ≤ reachBytes ∧ xs.length = n ∧ Rd w A xs ∧ ∀ x ∈ xs, FieldIn enc P w e x := by
  obtain ⟨A, n, c, rfl⟩ := okWide_slice ht hv
  obtain ⟨fuel, hf⟩ := h
  rcases open_slice1 ht hC hf with ⟨hcs, hx⟩ | ⟨a, len, cap, m, nn, V, D, Pl, hcs, hb, hl, hm, hmm, hx, hi⟩
  · simp [Value.cells] at hcs
    obtain ⟨rfl, rfl, rfl⟩ := hcs
    exact ⟨none, 0, 0, [], rfl, Nat.le_refl _, Nat.zero_le _, by simp, rfl, Rd.nil _ _, fun r h => by cases h⟩
  · simp [Value.cells] at hcs
    obtain ⟨rfl, rfl, rfl⟩ := hcs
    simp only [if_true] at hmm
    have hmm := hmm.symm
    subst hmm
    simp only [Prod.mk.injEq] at hx
    have hd := hx.1
    subst hd
    have hbytes : c * by_ ≤ reachBytes := by
      have := hz ((((List.range n).map D).length + ((List.range (c - n)).map fun j => D (n + j)).length) * P.bytesOf e) (by simp only [DataW.weights, ht]; exact List.mem_cons_self ..)
      rw [hby] at this
      simp only [List.length_map, List.length_range] at this
      rwa [show n + (c - n) = c by omega] at this
    refine ⟨some a, n, c, (List.range n).map V, rfl, hl, hm, hbytes, by simp, ?_, fun x hx => ?_⟩
    · intro k u hk
      have hkn : k < n := by simpa using (List.getElem?_eq_some_iff.1 hk).1
      have hspot : a.spot = none := by
        have hc := (hi 0 (by omega)).1
        unfold World.cell? at hc
        simp only [Addr.add, if_true] at hc
        split at hc
        · split at hc
          · cases hc
          · rename_i h; simpa using h
        · cases hc
      obtain ⟨b, off, spot⟩ := a
      dsimp only at hspot
      subst hspot
      refine ⟨b, off, rfl, ?_⟩
      have hc := (hi k (by omega)).1
      have hp : (⟨b, off, none⟩ : Addr).add k = ⟨b, off + k, none⟩ := by unfold Addr.add; split <;> simp_all
      rw [hp] at hc
      rw [hc, ← hk]
      simp [hkn]
    · obtain ⟨i, hi2, rfl⟩ := List.mem_map.1 hx
      have hin := List.mem_range.1 hi2
      refine ⟨nn, _, (hi i (by omega)).2, fun k hkk => hz k ?_⟩
      simp only [DataW.weights, ht, List.mem_cons, List.mem_append]
      exact .inr (.inl (weights_mem_all (d := D i) (List.mem_map.2 ⟨i, List.mem_range.2 hin, rfl⟩) k hkk))
end
end Go.Proofs.YtfgjhfmgacopoaaDoor
namespace Go.Proofs.YtfgjhfmgacopoaaDoor
open Go.RowKit
/-! Strings as lists of bytes. -/
abbrev str (b : Bs) : Value := .string ⟨b.toArray⟩
theorem Tryd.info_str : (Tryd.prog.info? 9).map (fun i => (i.zero, i.size, i.bytes)) = some (some (.string ByteArray.empty), 1, 16) := by kernel_rfl
theorem str_of (l : Bs) : (⟨l.toArray⟩ : ByteArray).size = l.length := by simp [ByteArray.size]
def sizeOfS : Value → Nat | .string s => s.size | _ => 0
theorem lit_of {a : ByteArray} {c : Bs} (h : a = ⟨c.toArray⟩) : str c = .string a := by rw [h]
/-- A test of strings as the walk spells it. -/
theorem str_beq {p q : ByteArray} {a b : Bs} (hp : p = ⟨a.toArray⟩) (hq : q = ⟨b.toArray⟩) : (p.toList == q.toList) = decide (a = b) := by
  subst hp; subst hq
  rw [ByteArray.toList_eq, ByteArray.toList_eq, Bool.eq_iff_iff]
  simp
theorem str_ne {s : ByteArray} {c : Bs} (hs : s = ⟨c.toArray⟩) (h : c ≠ []) : s.toList.isEmpty = false := by
  rw [hs, ByteArray.toList_eq]
  cases c with
  | nil => exact absurd rfl h
  | cons x t => rfl
theorem extract_eq (l : Bs) (a b : Nat) : (⟨l.toArray⟩ : ByteArray).extract a b = ⟨((l.take b).drop a).toArray⟩ := by
  apply ByteArray.ext
  simp [ByteArray.data_extract, List.drop_take]
theorem add_str {a b : ByteArray} {l m : Bs} (ha : a = ⟨l.toArray⟩) (hb : b = ⟨m.toArray⟩) (h : l.length + m.length ≤ 4294967296) (W : World) : (Op.stringOp .add a b).run Tryd.prog W = .ok (.string ⟨(l ++ m).toArray⟩) W := by
  subst ha; subst hb
  rw [run_string_add_sum (P := Tryd.prog) W _ _ (by rw [str_of, str_of]; omega), ByteArray.mk_append_mk]
end Go.Proofs.YtfgjhfmgacopoaaDoor
namespace Go.Proofs.YtfgjhfmgacopoaaDoor
set_option linter.unusedVariables false
set_option linter.unusedSimpArgs false
open Go.RowKit Go.ChangeShapes Go.WideShapes Go.Deep
/-! A struct (fields of one cell each) that came in. -/
theorem in_struct {H : Type} {enc : TypeId × Value → H} {P : Program} {w : World} {t : TypeId} {fs : Array Field} (ht : P.underlying t = some (.struct fs)) (hone : oneCellFields P fs = true) (hC : P.cellsOf t = fs.size)
    {r : Reach} {b0 : Nat} {v : Value} {d : DataW H} {p : List MemPlace} (hv : Value.okWide P w r b0 t v) (h : DataW.Trod enc P w 0 (fun _ => true) true t v d p) (hz : ∀ n ∈ d.weights P t, n ≤ reachBytes) :
    ∃ xs : Array Value, v = .agg xs ∧ xs.size = fs.size ∧ ∀ (j : Nat) (f : Field) (x : Value), fs[j]? = some f → xs[j]? = some x → FieldIn enc P w f.type x := by
  obtain ⟨cs, rfl, hcs⟩ := okWide_struct ht hv
  obtain ⟨fuel, hf⟩ := h
  have hf : DataW.trod enc P w 0 (fun _ => true) true fuel t cs.toList = some (d, p) := hf
  obtain ⟨ys, n', hn', hy, hlen, hyl, hfl⟩ := DataW.trod_struct ht hf
  refine ⟨cs, rfl, by rw [hcs, hC], fun j f x hj hx => ?_⟩
  obtain ⟨ho, hk⟩ := hone_of hone j f hj
  have hjl : j < fs.size := (Array.getElem?_eq_some_iff.1 hj).1
  have h1 := hfl j f hj
  rw [ho, hk] at h1
  have hone' : (cs.toList.drop j).take 1 = [x] := by
    rw [← Array.getElem?_toList] at hx
    obtain ⟨hlt, hg⟩ := List.getElem?_eq_some_iff.1 hx
    rw [List.drop_eq_getElem_cons hlt, ← hg]; rfl
  rw [hone'] at h1
  have hys : ys[j]? = some (ys[j]'(by omega)) := List.getElem?_eq_getElem (by omega)
  refine ⟨n', _, h1.trans hys, fun k hkk => hz k ?_⟩
  simp only [Prod.mk.injEq] at hy
  rw [hy.1]
  simp only [DataW.weights, ht]
  refine DataW.weights_mem_each (j := j) (t := f.type) (d := (ys[j]'(by omega)).1) ?_ ?_ k hkk
  · rw [List.getElem?_map, Array.getElem?_toList, hj]; rfl
  · rw [List.getElem?_map, hys]; rfl
/-- A string and an int. -/
theorem in_strint {H : Type} {enc : TypeId × Value → H} {P : Program} {w : World} {t ts ti : TypeId} {f g : Field} (ht : P.underlying t = some (.struct #[f, g])) (hone : oneCellFields P #[f, g] = true) (hC : P.cellsOf t = 2) (hs : P.underlying f.type = some .string) (hi : P.underlying g.type = some (.int .i64))
    {r : Reach} {b0 : Nat} {v : Value} {d : DataW H} {p : List MemPlace} (hv : Value.okWide P w r b0 t v) (h : DataW.Trod enc P w 0 (fun _ => true) true t v d p) (hz : ∀ n ∈ d.weights P t, n ≤ reachBytes) :
    ∃ (s : ByteArray) (a : Int), v = .agg #[.string s, .int .i64 a] ∧ s.size ≤ 140737488351232 ∧ (Lit.int .i64 a).wf = true := by
  obtain ⟨xs, rfl, hsz, hf⟩ := in_struct ht hone hC hv h hz
  obtain ⟨x, y, rfl⟩ : ∃ x y, xs = #[x, y] := by
    obtain ⟨l⟩ := xs
    match l, hsz with
    | [x, y], _ => exact ⟨x, y, rfl⟩
  obtain ⟨s, rfl, h1⟩ := (hf 0 f x rfl rfl).string hs
  obtain ⟨a, rfl, h2⟩ := (hf 1 g y rfl rfl).int hi
  exact ⟨s, a, rfl, h1, h2⟩
end Go.Proofs.YtfgjhfmgacopoaaDoor
