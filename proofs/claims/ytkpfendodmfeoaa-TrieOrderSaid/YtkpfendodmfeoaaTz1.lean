import Derived.Test.YtkpfendodmfeoaaTy3
import Derived.Test.YtkpfendodmfeoaaIn2
namespace Go.Proofs.Ytkpfendodmfeoaa
set_option linter.unusedVariables false
set_option linter.unusedSimpArgs false
open Go.RowKit
/-! What a trie's blocks are; the script's calls. -/
def IsN (w : World) (b : Nat) : Prop := ∃ c T, w.heap[b]? = some (.cells c T (0, 0)) ∧ (T = 57 ∨ T = 54 ∨ T = 59)
theorem row_isN {w : World} {sv : Value} {n : Nat} {qs : List Nat} (h : Kids w sv n qs) : ∀ b ∈ rbl sv, IsN w b := by
  intro b hb
  have hb := rbl_of hb
  rcases h.2 with ⟨rfl, _⟩ | ⟨g, off, cap, cur, rfl, _, hg, _⟩
  · simp [Value.ownBlock] at hb
  · obtain rfl : g = b := by simpa [Value.ownBlock] using hb
    exact ⟨_, _, hg, .inr (.inl rfl)⟩
theorem RepF.isN {w : World} : {f : F V} → {ps fp : List Nat} → RepF encV w f ps fp → ∀ b ∈ fp, IsN w b
  | .nil, _, _, h, b, hb => by rw [h.2] at hb; cases hb
  | .cons _ _ _ _ _ _, _, _, h, b, hb => by
      obtain ⟨a, ps', sv, qs, fk, fr, h1, h2, h3, h4, h5, h6⟩ := h
      have := h6.mem_iff.1 hb
      simp only [List.cons_append, List.append_assoc, List.mem_cons, List.mem_append] at this
      rcases this with e | e | e | e
      · rw [e]; exact ⟨_, _, h2, .inl rfl⟩
      · exact row_isN h3 b e
      · exact RepF.isN h4 b e
      · exact RepF.isN h5 b e
theorem Tr.isN {w : World} {tb : Nat} {l : Ents V} {fp : List Nat} (h : Tr w tb l fp) : ∀ b ∈ fp, IsN w b := by
  obtain ⟨x, ⟨ra, fr, h1, ⟨sv, qs, fk, k1, k2, k3, k4⟩, h3, h4⟩, hG, rfl⟩ := h
  intro b hb
  rcases List.mem_cons.1 (h3.mem_iff.1 hb) with e | e
  · rw [e]; exact ⟨_, _, h1, .inr (.inr rfl)⟩
  · have := k4.mem_iff.1 e
    simp only [List.mem_cons, List.mem_append] at this
    rcases this with e | e | e
    · rw [e]; exact ⟨_, _, k1, .inl rfl⟩
    · exact row_isN k2 b e
    · exact k3.isN b e
/-- A block of another type is none of a trie's. -/
theorem Tr.not_in {w : World} {tb : Nat} {l : Ents V} {fp : List Nat} (h : Tr w tb l fp) {b : Nat} {c : Array Value} {T : TypeId} {r : Nat × Nat} (hb : w.heap[b]? = some (.cells c T r)) (h1 : T ≠ 57) (h2 : T ≠ 54) (h3 : T ≠ 59) : b ∉ fp := fun hm => by
  obtain ⟨c', T', e, ht⟩ := h.isN b hm
  rw [hb] at e; cases e
  rcases ht with e | e | e
  · exact h1 e
  · exact h2 e
  · exact h3 e
theorem PR.not_in {w : World} {tb : Nat} {l m : Ents V} {fp : List Nat} {B : Nat} {v : Value} (h : Tr w tb l fp) (hr : PR w B v m) : ∀ g, v.ownBlock = some g → g ∉ fp := by
  intro g hg
  rcases hr.2 with ⟨rfl, _⟩ | ⟨g', off, cap, cur, rfl, _, h', _⟩
  · simp [Value.ownBlock] at hg
  · obtain rfl : g' = g := by simpa [Value.ownBlock] using hg
    exact h.not_in h' (by decide) (by decide) (by decide)
structure OpT where
  k : Int
  key : Bs
  v : Int
def opCells (o : OpT) : List Value := [.int .i64 o.k, str o.key, .int .i64 o.v]
def flatO (ops : List OpT) : List Value := (ops.map opCells).flatten
theorem flatO_at : {ops : List OpT} → {j : Nat} → {o : OpT} → ops[j]? = some o → (flatO ops)[j * 3]? = some (.int .i64 o.k) ∧ (flatO ops)[j * 3 + 1]? = some (str o.key) ∧ (flatO ops)[j * 3 + 2]? = some (.int .i64 o.v)
  | p :: ops, 0, o, h => by
      simp only [List.getElem?_cons_zero, Option.some.injEq] at h
      subst h
      exact ⟨rfl, rfl, rfl⟩
  | p :: ops, j + 1, o, h => by
      obtain ⟨a, b, c⟩ := flatO_at (ops := ops) (j := j) (o := o) (by simpa using h)
      have e : flatO (p :: ops) = opCells p ++ flatO ops := by simp [flatO]
      rw [e]
      have hl : (opCells p).length = 3 := rfl
      refine ⟨?_, ?_, ?_⟩
      · rw [List.getElem?_append_right (by omega), hl, show (j + 1) * 3 - 3 = j * 3 by omega]; exact a
      · rw [List.getElem?_append_right (by omega), hl, show (j + 1) * 3 + 1 - 3 = j * 3 + 1 by omega]; exact b
      · rw [List.getElem?_append_right (by omega), hl, show (j + 1) * 3 + 2 - 3 = j * 3 + 2 by omega]; exact c
theorem RdO.at {w : World} {A : Option Addr} {ops : List OpT} (h : Rd w A (flatO ops)) {j : Nat} {o : OpT} (ho : ops[j]? = some o) :
    ∃ g off, A = some ⟨g, off, none⟩ ∧ w.cell? ⟨g, off + j * 3, none⟩ = some (.int .i64 o.k) ∧ w.cell? ⟨g, off + j * 3 + 1, none⟩ = some (str o.key) ∧ w.cell? ⟨g, off + j * 3 + 2, none⟩ = some (.int .i64 o.v) := by
  obtain ⟨a, b, c⟩ := flatO_at ho
  obtain ⟨g, off, rfl, h1⟩ := h _ _ a
  obtain ⟨g2, off2, e2, h2⟩ := h _ _ b
  obtain ⟨g3, off3, e3, h3⟩ := h _ _ c
  cases e2; cases e3
  exact ⟨g, off, rfl, h1, by rw [Nat.add_assoc]; exact h2, by rw [Nat.add_assoc]; exact h3⟩
def keySum : List OpT → Nat
  | [] => 0
  | o :: r => o.key.length + keySum r
theorem keySum_app : (a b : List OpT) → keySum (a ++ b) = keySum a + keySum b
  | [], b => by simp [keySum]
  | o :: a, b => by simp only [List.cons_append, keySum, keySum_app a b]; omega
theorem keySum_le : (a : List OpT) → (M : Nat) → (∀ o ∈ a, o.key.length ≤ M) → keySum a ≤ a.length * M
  | [], _, _ => by simp [keySum]
  | o :: a, M, h => by
      have h1 := h o (List.mem_cons_self ..)
      have h2 := keySum_le a M fun x hx => h x (List.mem_cons_of_mem _ hx)
      rw [keySum, List.length_cons, Nat.add_mul]; omega
def fewB (ops : List OpT) : Bool := decide (ops.length ≤ 80 ∧ keySum ops ≤ 2000)
set_option maxHeartbeats 1600000 in
theorem few_calls (w : World) (A : Option Addr) (c : Nat) (ops : List OpT) (hr : Rd w A (flatO ops)) (hA : ∀ a, A = some a → ops ≠ [] → a.block < w.heap.size) (hl : ops.length ≤ 140737488351232) (hk : ∀ o ∈ ops, o.key.length ≤ 140737488351232) :
    Calls Try.prog 16 #[.slice A ops.length c] w fun e w' => e = .returned (.bool (fewB ops)) ∧ Below w.heap.size w w' := by
  have HK := Lib.hid hk
  have HR := Lib.hid hr
  clear hk hr
  by_cases h80 : ops.length ≤ 80
  · go_enter Try.func16, Try.ntmps16
    go_wp2
    go_loopw [3, 8] (fun u3 u8 wr => ∃ (j m : Nat), u8 = n64 j ∧ j ≤ ops.length ∧ u3 = n64 m ∧ m = keySum (ops.take j) ∧ Below w.heap.size w wr) (fun _ u8 _ => (ops.length - intOf u8).toNat)
    case atStart => exact ⟨0, 0, rfl, Nat.zero_le _, rfl, rfl, Below.refl _ _⟩
    case round =>
      obtain ⟨j, m, rfl, hj, rfl, hm, hb⟩ := hrel
      have HB := Lib.hid hb
      have HM := Lib.hid hm
      have hmle : m ≤ 80 * 140737488351232 := by
        have h1 := keySum_le (ops.take j) 140737488351232 fun o ho => HK.out o (List.mem_of_mem_take ho)
        have h2 : (ops.take j).length ≤ 80 := by rw [List.length_take]; omega
        rw [hm]
        exact Nat.le_trans h1 (Nat.mul_le_mul_right _ h2)
      have hbs := hb.size
      clear hb hm
      by_cases hlt : j < ops.length
      · obtain ⟨o, ho⟩ : ∃ o, ops[j]? = some o := ⟨_, List.getElem?_eq_getElem hlt⟩
        have hRw : Rd wr A (flatO ops) := HR.out.below HB.out fun a ha _ => hA a ha (by intro e; subst e; simp at hlt)
        obtain ⟨g, off, rfl, c0, c1, c2⟩ := RdO.at hRw ho
        obtain ⟨so, hso⟩ : ∃ s : ByteArray, s = ⟨o.key.toArray⟩ := ⟨_, rfl⟩
        rw [lit_of hso] at c1
        have hsz : so.size = o.key.length := by rw [hso, str_of]
        have hko := HK.out o (List.mem_of_getElem? ho)
        have hks : so.size ≤ 140737488351232 := by omega
        have htk : keySum (ops.take (j + 1)) = m + so.size := by rw [List.take_add_one, ho, HM.out, keySum_app, hsz]; simp [keySum]
        have HTK := Lib.hid htk
        have hjl : (j : Int) < (ops.length : Int) := by omega
        clear htk hsz hso ho hRw hko hA
        go_wp2
        go_roundw
        case rel => exact ⟨j + 1, m + so.size, by go_num, by omega, by go_num, HTK.out.symm, HB.out.alloc (by omega) _⟩
        case measure => simp [intOf]; omega
      · obtain rfl : j = ops.length := by omega
        have hfin : fewB ops = decide (m ≤ 2000) := by
          unfold fewB
          rw [HM.out, List.take_length]
          simp [h80]
        have HF := Lib.hid hfin
        clear hfin hA
        have h80i : decide ((ops.length : Int) ≤ 80) = true := by simp; omega
        by_cases hm2 : m ≤ 2000
        · have hmi : decide ((m : Int) ≤ 2000) = true := by simp; omega
          go_wp2
          go_ret
          exact ⟨by rw [HF.out, decide_eq_true hm2]; rfl, HB.out⟩
        · have hmi : decide ((m : Int) ≤ 2000) = false := by simp; omega
          go_wp2
          go_ret
          exact ⟨by rw [HF.out, decide_eq_false hm2]; rfl, HB.out⟩
  · go_enter Try.func16, Try.ntmps16
    go_wp2
    go_loopw [3, 8] (fun u3 u8 wr => ∃ (j : Nat) (m : Int), u8 = n64 j ∧ j ≤ ops.length ∧ u3 = .int .i64 m ∧ Below w.heap.size w wr) (fun _ u8 _ => (ops.length - intOf u8).toNat)
    case atStart => exact ⟨0, 0, rfl, Nat.zero_le _, rfl, Below.refl _ _⟩
    case round =>
      obtain ⟨j, m, rfl, hj, rfl, hb⟩ := hrel
      have HB := Lib.hid hb
      have hbs := hb.size
      clear hb
      by_cases hlt : j < ops.length
      · obtain ⟨o, ho⟩ : ∃ o, ops[j]? = some o := ⟨_, List.getElem?_eq_getElem hlt⟩
        have hRw : Rd wr A (flatO ops) := HR.out.below HB.out fun a ha _ => hA a ha (by intro e; subst e; simp at hlt)
        obtain ⟨g, off, rfl, c0, c1, c2⟩ := RdO.at hRw ho
        obtain ⟨so, hso⟩ : ∃ s : ByteArray, s = ⟨o.key.toArray⟩ := ⟨_, rfl⟩
        rw [lit_of hso] at c1
        have hjl : (j : Int) < (ops.length : Int) := by omega
        clear hso ho hRw hA
        go_wp2
        go_roundw
        case rel => exact ⟨j + 1, _, by go_num, by omega, rfl, HB.out.alloc (by omega) _⟩
        case measure => simp [intOf]; omega
      · obtain rfl : j = ops.length := by omega
        have hfin : fewB ops = false := by
          unfold fewB
          simp [h80]
        have HF := Lib.hid hfin
        clear hfin hA
        have h80i : decide ((ops.length : Int) ≤ 80) = false := by simp; omega
        go_wp2
        go_ret
        exact ⟨by rw [HF.out]; rfl, HB.out⟩
end Go.Proofs.Ytkpfendodmfeoaa
