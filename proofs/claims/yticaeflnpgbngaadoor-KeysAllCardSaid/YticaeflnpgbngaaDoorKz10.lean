import Derived.Test.YticaeflnpgbngaaDoorKz9
namespace Go.Proofs.YticaeflnpgbngaaDoor
set_option linter.unusedVariables false
set_option linter.unusedSimpArgs false
open Go.RowKit Go.Maps Go.ChangeShapes Go.WideShapes Go.ChangeAt Go.Deep
/-! Events that came in. -/
theorem FieldIn.row1 {H : Type} {enc : TypeId × Value → H} {P : Program} {w : World} {t e : TypeId} {by_ : Nat} (ht : P.underlying t = some (.slice e)) (hC : P.cellsOf e = 1) (hby : P.bytesOf e = by_) {v : Value} (h : FieldIn enc P w t v) :
    ∃ (A : Option Addr) (n c : Nat) (xs : List Value), v = .slice A n c ∧ n ≤ c ∧ c ≤ maxLen ∧ c * by_ ≤ reachBytes ∧ xs.length = n ∧ Rd w A xs ∧ ∀ x ∈ xs, FieldIn enc P w e x := by
  obtain ⟨fuel, ⟨d, p⟩, hf, hz⟩ := h
  rcases open_slice1 ht hC hf with ⟨hcs, hx⟩ | ⟨a, len, cap, m, nn, V, D, Pl, hcs, hb, hl, hm, hmm, hx, hi⟩
  · obtain rfl : v = .slice none 0 0 := by simpa using hcs
    exact ⟨none, 0, 0, [], rfl, Nat.le_refl _, Nat.zero_le _, by simp, rfl, Rd.nil _ _, fun r h => by cases h⟩
  · obtain rfl : v = .slice (some a) len cap := by simpa using hcs
    simp only [if_true] at hmm
    have hmm := hmm.symm
    subst hmm
    simp only [Prod.mk.injEq] at hx
    have hd := hx.1
    subst hd
    have hbytes : cap * by_ ≤ reachBytes := by
      have := hz ((((List.range len).map D).length + ((List.range (cap - len)).map fun j => D (len + j)).length) * P.bytesOf e) (by simp only [DataW.weights, ht]; exact List.mem_cons_self ..)
      rw [hby] at this
      simp only [List.length_map, List.length_range] at this
      rwa [show len + (cap - len) = cap by omega] at this
    refine ⟨some a, len, cap, (List.range len).map V, rfl, hl, hm, hbytes, by simp, ?_, fun x hx => ?_⟩
    · intro k u hk
      have hkn : k < len := by simpa using (List.getElem?_eq_some_iff.1 hk).1
      have hspot : a.spot = none := by
        have hc := (hi 0 (by omega)).1
        unfold World.cell? at hc
        simp only [Addr.add, if_true] at hc
        split at hc
        · split at hc
          · cases hc
          · rename_i h; simpa using h
        · cases hc
      obtain ⟨b, off, spot⟩ := a
      dsimp only at hspot
      subst hspot
      refine ⟨b, off, rfl, ?_⟩
      have hc := (hi k (by omega)).1
      have hp : (⟨b, off, none⟩ : Addr).add k = ⟨b, off + k, none⟩ := by unfold Addr.add; split <;> simp_all
      rw [hp] at hc
      rw [hc, ← hk]
      simp [hkn]
    · obtain ⟨i, hi2, rfl⟩ := List.mem_map.1 hx
      have hin := List.mem_range.1 hi2
      refine ⟨nn, _, (hi i (by omega)).2, fun k hkk => hz k ?_⟩
      simp only [DataW.weights, ht, List.mem_cons, List.mem_append]
      exact .inr (.inl (weights_mem_all (d := D i) (List.mem_map.2 ⟨i, List.mem_range.2 hin, rfl⟩) k hkk))
structure EvT where
  tick : Bool
  b : Bs
  A : Option Addr
  c : Nat
def evCells (e : EvT) : List Value := [.bool e.tick, .slice e.A e.b.length e.c]
def flatV (l : List EvT) : List Value := (l.map evCells).flatten
def OkEv (w : World) (e : EvT) : Prop := RdB w e.A e.b ∧ e.b.length ≤ e.c ∧ e.c ≤ reachBytes
theorem evs_of {H : Type} {enc : TypeId × Value → H} {w : World} {fs : Array Field} (hf0 : ∃ f, fs[0]? = some f ∧ f.type = 4) (hf1 : ∃ f, fs[1]? = some f ∧ f.type = 25) (hs : fs.size = 2) : (rows : List (List Value)) → (∀ r ∈ rows, r.length = fs.size ∧ ∀ (j : Nat) (f : Field) (x : Value), fs[j]? = some f → r[j]? = some x → FieldIn enc Tryd.prog w f.type x) → ∃ l : List EvT, rows = l.map evCells ∧ ∀ e ∈ l, OkEv w e
  | [], _ => ⟨[], rfl, by simp⟩
  | r :: rows, h => by
      obtain ⟨l, hl, hb⟩ := evs_of hf0 hf1 hs rows fun q hq => h q (List.mem_cons_of_mem _ hq)
      obtain ⟨h1, h2⟩ := h r (List.mem_cons_self ..)
      rw [hs] at h1
      obtain ⟨x, y, rfl⟩ : ∃ x y, r = [x, y] := by
        match r, h1 with
        | [x, y], _ => exact ⟨x, y, rfl⟩
      obtain ⟨f, hf, hft⟩ := hf0
      obtain ⟨g, hg, hgt⟩ := hf1
      have hx := h2 0 f x hf rfl
      have hy := h2 1 g y hg rfl
      rw [hft] at hx
      rw [hgt] at hy
      obtain ⟨t, rfl⟩ := hx.bool Tryd.underlying4
      obtain ⟨A, n, c, xs, rfl, q1, _, q2, q4, q5, q6⟩ := hy.row1 (e := 5) (by_ := 1) Tryd.underlying25 (by kernel_rfl) (by kernel_rfl)
      obtain ⟨b, rfl⟩ := bytes_of xs q6
      rw [List.length_map] at q4
      subst q4
      refine ⟨⟨t, b, A, c⟩ :: l, by rw [hl]; rfl, fun e he => ?_⟩
      rcases List.mem_cons.1 he with e1 | e1
      · rw [e1]; exact ⟨q5, q1, by simpa using q2⟩
      · exact hb e e1
set_option maxRecDepth 100000 in
theorem in_evs {H : Type} {enc : TypeId × Value → H} {w : World} {r : Reach} {b0 : Nat} {v : Value} {d : DataW H} {p : List MemPlace} (hv : Value.okWide Tryd.prog w r b0 22 v) (h : DataW.Trod enc Tryd.prog w 0 (fun _ => true) true 22 v d p) (hz : ∀ n ∈ d.weights Tryd.prog 22, n ≤ reachBytes) :
    ∃ (A : Option Addr) (c : Nat) (l : List EvT), v = .slice A l.length c ∧ Rd w A (flatV l) ∧ (∀ e ∈ l, OkEv w e) ∧ l.length ≤ 140737488351232 := by
  obtain ⟨A, n, c, rows, rfl, h1, h2, h3, h4, h5, h6⟩ := in_rows (by_ := 32) Tryd.underlying22 Tryd.underlying33 (by kernel_rfl) (by kernel_rfl) (by decide) (by kernel_rfl) hv h hz
  obtain ⟨l, rfl, hb⟩ := evs_of ⟨_, rfl, rfl⟩ ⟨_, rfl, rfl⟩ rfl rows h6
  rw [List.length_map] at h4
  subst h4
  refine ⟨A, c, l, rfl, h5, hb, ?_⟩
  have : reachBytes ≤ 140737488355328 := by decide
  omega
def sumV (l : List EvT) : Nat := (l.map fun e => e.b.length).sum
theorem sumV_app (a b : List EvT) : sumV (a ++ b) = sumV a + sumV b := by simp [sumV]
theorem sumV_le (l : List EvT) (k : Nat) (h : ∀ e ∈ l, e.b.length ≤ k) : sumV l ≤ l.length * k := by
  induction l with
  | nil => simp [sumV]
  | cons e l ih =>
    have h1 := ih fun x hx => h x (List.mem_cons_of_mem _ hx)
    have h2 := h e (List.mem_cons_self ..)
    show e.b.length + sumV l ≤ _
    rw [List.length_cons, Nat.add_mul, Nat.one_mul]
    omega
def fewV (l : List EvT) : Bool := decide (l.length ≤ 100) && decide (sumV l ≤ 2000)
theorem flatV_get (l : List EvT) (k : Nat) (e : EvT) (h : l[k]? = some e) : (flatV l)[k * 2]? = some (.bool e.tick) ∧ (flatV l)[k * 2 + 1]? = some (.slice e.A e.b.length e.c) := by
  induction l generalizing k with
  | nil => simp at h
  | cons p l ih =>
    rw [show flatV (p :: l) = .bool p.tick :: .slice p.A p.b.length p.c :: flatV l from rfl]
    cases k with
    | zero => simp at h; subst h; exact ⟨rfl, rfl⟩
    | succ k =>
      have := ih k (by simpa using h)
      rw [show (k + 1) * 2 = k * 2 + 1 + 1 by omega]
      simpa using this
theorem ev_at {w : World} {A : Option Addr} {l : List EvT} (hr : Rd w A (flatV l)) {k : Nat} {e : EvT} (h : l[k]? = some e) : ∃ g off, A = some ⟨g, off, none⟩ ∧ w.cell? ⟨g, off + k * 2, none⟩ = some (.bool e.tick) ∧ w.cell? ⟨g, off + k * 2 + 1, none⟩ = some (.slice e.A e.b.length e.c) := by
  obtain ⟨h1, h2⟩ := flatV_get l k e h
  obtain ⟨g, off, rfl, c1⟩ := hr _ _ h1
  obtain ⟨_, _, e9, c2⟩ := hr _ _ h2
  cases e9
  exact ⟨g, off, rfl, c1, by rw [Nat.add_assoc]; exact c2⟩
set_option maxRecDepth 100000 in
set_option maxHeartbeats 1600000 in
theorem few4_calls (w : World) (A : Option Addr) (c : Nat) (l : List EvT) (hr : Rd w A (flatV l)) (hl : l.length ≤ 140737488351232) (hk : ∀ e ∈ l, OkEv w e) :
    Calls Tryd.prog 11 #[.slice A l.length c] w fun e w' => e = .returned (.bool (fewV l)) ∧ Below w.heap.size w w' := by
  have HK : Hid (∀ e ∈ l, e.b.length ≤ 140737488355328) := Lib.hid fun e he => by have := hk e he; have h1 := this.2.1; have h2 := this.2.2; have : reachBytes ≤ 140737488355328 := by decide
                                                                                  omega
  have HR := Lib.hid hr
  clear hk hr
  by_cases h80 : l.length ≤ 100
  · go_enter Tryd.func11, Tryd.ntmps11
    go_wp2
    go_loopw [3, 8] (fun u3 u8 wr => ∃ (j m : Nat), u8 = n64 j ∧ j ≤ l.length ∧ u3 = n64 m ∧ Hid (m = sumV (l.take j)) ∧ Hid (Below w.heap.size w wr)) (fun _ u8 _ => (l.length - intOf u8).toNat)
    case atStart => exact ⟨0, 0, rfl, Nat.zero_le _, rfl, Lib.hid rfl, Lib.hid (Below.refl _ _)⟩
    case round =>
      obtain ⟨j, m, rfl, hj, rfl, HM, HB⟩ := hrel
      have hmle : m ≤ 100 * 140737488355328 := by
        have h1 := sumV_le (l.take j) 140737488355328 fun o ho => HK.out o (List.mem_of_mem_take ho)
        have h2 : (l.take j).length ≤ 100 := by rw [List.length_take]; omega
        rw [HM.out]
        exact Nat.le_trans h1 (Nat.mul_le_mul_right _ h2)
      have hbs := HB.out.size
      by_cases hlt : j < l.length
      · obtain ⟨o, ho⟩ : ∃ o, l[j]? = some o := ⟨_, List.getElem?_eq_getElem hlt⟩
        obtain ⟨g, off, rfl, c0, c1⟩ := ev_at (HR.out.later HB.out) ho
        have hko := HK.out o (List.mem_of_getElem? ho)
        have htk : sumV (l.take (j + 1)) = m + o.b.length := by rw [List.take_add_one, ho, HM.out, sumV_app]; simp [sumV]
        have HTK := Lib.hid htk
        have hjl : (j : Int) < (l.length : Int) := by omega
        obtain ⟨k, hkk⟩ : ∃ k, k = o.b.length := ⟨_, rfl⟩
        rw [← hkk] at c1 hko HTK
        clear htk ho hkk
        go_wp2
        go_roundw
        case rel => exact ⟨j + 1, m + k, by go_num, by omega, by go_num, Lib.hid HTK.out.symm, Lib.hid (HB.out.alloc (by omega) _)⟩
        case measure => simp [intOf]; omega
      · obtain rfl : j = l.length := by omega
        have hfin : fewV l = decide (m ≤ 2000) := by
          unfold fewV
          rw [HM.out, List.take_length]
          simp [h80]
        have HF := Lib.hid hfin
        clear hfin
        have h80i : decide ((l.length : Int) ≤ 100) = true := by simp; omega
        by_cases hm2 : m ≤ 2000
        · have hmi : decide ((m : Int) ≤ 2000) = true := by simp; omega
          go_wp2
          go_ret
          exact ⟨by rw [HF.out, decide_eq_true hm2]; rfl, HB.out⟩
        · have hmi : decide ((m : Int) ≤ 2000) = false := by simp; omega
          go_wp2
          go_ret
          exact ⟨by rw [HF.out, decide_eq_false hm2]; rfl, HB.out⟩
  · go_enter Tryd.func11, Tryd.ntmps11
    go_wp2
    go_loopw [3, 8] (fun u3 u8 wr => ∃ (j : Nat) (m : Int), u8 = n64 j ∧ j ≤ l.length ∧ u3 = .int .i64 m ∧ Hid (Below w.heap.size w wr)) (fun _ u8 _ => (l.length - intOf u8).toNat)
    case atStart => exact ⟨0, 0, rfl, Nat.zero_le _, rfl, Lib.hid (Below.refl _ _)⟩
    case round =>
      obtain ⟨j, m, rfl, hj, rfl, HB⟩ := hrel
      have hbs := HB.out.size
      by_cases hlt : j < l.length
      · obtain ⟨o, ho⟩ : ∃ o, l[j]? = some o := ⟨_, List.getElem?_eq_getElem hlt⟩
        obtain ⟨g, off, rfl, c0, c1⟩ := ev_at (HR.out.later HB.out) ho
        have hjl : (j : Int) < (l.length : Int) := by omega
        clear ho
        go_wp2
        go_roundw
        case rel => exact ⟨j + 1, _, by go_num, by omega, rfl, Lib.hid (HB.out.alloc (by omega) _)⟩
        case measure => simp [intOf]; omega
      · obtain rfl : j = l.length := by omega
        have HF := Lib.hid (show fewV l = false by unfold fewV; simp [h80])
        have h80i : decide ((l.length : Int) ≤ 100) = false := by simp; omega
        go_wp2
        go_ret
        exact ⟨by rw [HF.out]; rfl, HB.out⟩
end Go.Proofs.YticaeflnpgbngaaDoor
