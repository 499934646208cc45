import Derived.Test.YtpemjhghiccngaaDoorHp
import Derived.Test.YtpemjhghiccngaaDoorHm
namespace Go.Proofs.YtpemjhghiccngaaDoor
set_option linter.unusedVariables false
set_option linter.unusedSimpArgs false
open Go.RowKit
/-! slices.IndexFunc. -/
/-- A closure that captured one variable tells p, as long as that one's block is as it was. -/
def Tells {α : Type} (enc : α → Value) (F cb : Nat) (o : Obj) (p : α → Bool) : Prop :=
  ∀ (W : World) (x : α), W.heap[cb]? = some o → Calls Tryd.prog F #[enc x, .pointer (some ⟨cb, 0, none⟩)] W fun e w' => e = .returned (.bool (p x)) ∧ Below W.heap.size W w'
/-- F is a function of the program's own. -/
def Own (F : Nat) : Prop := ∀ (args : Array Value) (W : World), (callFunc F args).run Tryd.prog W = .ok (.enter F args) W
abbrev fnV (F cb : Nat) : Value := .func (.func F) #[] #[.pointer (some ⟨cb, 0, none⟩)]
set_option maxRecDepth 100000 in
set_option maxHeartbeats 800000 in
theorem idxE_calls (F cb : Nat) (o : Obj) (p : EntT → Bool) (hF : Own F) (hp : Tells entV F cb o p) (w : World) (hcb : w.heap[cb]? = some o) (A : Option Addr) (c : Nat) (l : List EntT) (hr : Rd w A (flatE l)) (hl : l.length ≤ 1000000) :
    Calls Tryd.prog 40 #[.slice A l.length c, fnV F cb] w fun e w' => e = .returned (.int .i64 (idxI l p)) ∧ Below w.heap.size w w' := by
  have HP := Lib.hid hp
  have hcf := hF
  unfold Own at hcf
  have HC := Lib.hid hcb
  have HR := Lib.hid hr
  clear hp hcb hr
  go_enter Tryd.func40, Tryd.ntmps40
  go_wp2
  go_loopw [8] (fun u8 wr => ∃ k : Nat, u8 = n64 k ∧ k ≤ l.length ∧ Hid (∀ y ∈ l.take k, p y = false) ∧ Below w.heap.size w wr) (fun u8 _ => (l.length - intOf u8).toNat)
  case atStart => exact ⟨0, rfl, Nat.zero_le _, Lib.hid (by simp), Below.refl _ _⟩
  case round =>
    obtain ⟨k, rfl, hk, hno, hb⟩ := hrel
    have HB := Lib.hid hb
    clear hb
    by_cases hlt : k < l.length
    · obtain ⟨x, hx⟩ : ∃ x, l[k]? = some x := ⟨_, List.getElem?_eq_getElem hlt⟩
      obtain ⟨g, off, rfl, c0, c1, c2⟩ := RdE.at (HR.out.later HB.out) hx
      have hW : wr.heap[cb]? = some o := (HB.out.block cb (lt_of_heap HC.out)).trans HC.out
      have q := HP.out wr x hW
      unfold entV at q
      have Q := Lib.hid q
      have HX := Lib.hid hx
      have b1 : (k : Int) < (l.length : Int) := by omega
      clear q hx hW
      by_cases hpx : p x = true
      · rw [hpx] at Q
        have hfin : idxI l p = (k : Int) := idxI_at HX.out hpx hno.out
        have HF := Lib.hid hfin
        clear hfin
        go_wp2_with ((with_reducible refine Q.out.mono ?_); rintro e w' ⟨rfl, hb2⟩)
        go_ret
        exact ⟨by rw [HF.out]; rfl, HB.out.trans (hb2.mono HB.out.size)⟩
      · have hpf : p x = false := by simpa using hpx
        rw [hpf] at Q
        have hno' : Hid (∀ y ∈ l.take (k + 1), p y = false) := Lib.hid (by
          intro y hy
          rw [List.take_add_one, HX.out] at hy
          rcases List.mem_append.1 hy with e | e
          · exact hno.out y e
          · have : y = x := by simpa using e
            rw [this]; exact hpf)
        clear hpx hpf
        go_wp2_with ((with_reducible refine Q.out.mono ?_); rintro e w' ⟨rfl, hb2⟩)
        go_roundw
        case rel => exact ⟨k + 1, by go_num, by omega, hno', HB.out.trans (hb2.mono HB.out.size)⟩
        case measure => simp [intOf]; omega
    · obtain rfl : k = l.length := by omega
      have hfin : idxI l p = -1 := idxI_none (by have := hno.out; rwa [List.take_length] at this)
      have HF := Lib.hid hfin
      clear hfin
      go_wp2
      go_ret
      exact ⟨by rw [HF.out]; rfl, HB.out⟩
set_option maxRecDepth 100000 in
set_option maxHeartbeats 800000 in
theorem idxS_calls (F cb : Nat) (o : Obj) (p : Bs → Bool) (hF : Own F) (hp : Tells str F cb o p) (w : World) (hcb : w.heap[cb]? = some o) (A : Option Addr) (c : Nat) (l : List Bs) (hr : Rd w A (l.map str)) (hl : l.length ≤ 1000000) :
    Calls Tryd.prog 58 #[.slice A l.length c, fnV F cb] w fun e w' => e = .returned (.int .i64 (idxI l p)) ∧ Below w.heap.size w w' := by
  have HP := Lib.hid hp
  have hcf := hF
  unfold Own at hcf
  have HC := Lib.hid hcb
  have HR := Lib.hid hr
  clear hp hcb hr
  go_enter Tryd.func58, Tryd.ntmps58
  go_wp2
  go_loopw [8] (fun u8 wr => ∃ k : Nat, u8 = n64 k ∧ k ≤ l.length ∧ Hid (∀ y ∈ l.take k, p y = false) ∧ Below w.heap.size w wr) (fun u8 _ => (l.length - intOf u8).toNat)
  case atStart => exact ⟨0, rfl, Nat.zero_le _, Lib.hid (by simp), Below.refl _ _⟩
  case round =>
    obtain ⟨k, rfl, hk, hno, hb⟩ := hrel
    have HB := Lib.hid hb
    clear hb
    by_cases hlt : k < l.length
    · obtain ⟨x, hx⟩ : ∃ x, l[k]? = some x := ⟨_, List.getElem?_eq_getElem hlt⟩
      obtain ⟨g, off, rfl, c0⟩ := (HR.out.later HB.out) k (str x) (by rw [List.getElem?_map, hx]; rfl)
      have hW : wr.heap[cb]? = some o := (HB.out.block cb (lt_of_heap HC.out)).trans HC.out
      have q := HP.out wr x hW
      have Q := Lib.hid q
      have HX := Lib.hid hx
      have b1 : (k : Int) < (l.length : Int) := by omega
      clear q hx hW
      by_cases hpx : p x = true
      · rw [hpx] at Q
        have hfin : idxI l p = (k : Int) := idxI_at HX.out hpx hno.out
        have HF := Lib.hid hfin
        clear hfin
        go_wp2_with ((with_reducible refine Q.out.mono ?_); rintro e w' ⟨rfl, hb2⟩)
        go_ret
        exact ⟨by rw [HF.out]; rfl, HB.out.trans (hb2.mono HB.out.size)⟩
      · have hpf : p x = false := by simpa using hpx
        rw [hpf] at Q
        have hno' : Hid (∀ y ∈ l.take (k + 1), p y = false) := Lib.hid (by
          intro y hy
          rw [List.take_add_one, HX.out] at hy
          rcases List.mem_append.1 hy with e | e
          · exact hno.out y e
          · have : y = x := by simpa using e
            rw [this]; exact hpf)
        clear hpx hpf
        go_wp2_with ((with_reducible refine Q.out.mono ?_); rintro e w' ⟨rfl, hb2⟩)
        go_roundw
        case rel => exact ⟨k + 1, by go_num, by omega, hno', HB.out.trans (hb2.mono HB.out.size)⟩
        case measure => simp [intOf]; omega
    · obtain rfl : k = l.length := by omega
      have hfin : idxI l p = -1 := idxI_none (by have := hno.out; rwa [List.take_length] at this)
      have HF := Lib.hid hfin
      clear hfin
      go_wp2
      go_ret
      exact ⟨by rw [HF.out]; rfl, HB.out⟩
end Go.Proofs.YtpemjhghiccngaaDoor
namespace Go.Proofs.YtpemjhghiccngaaDoor
set_option linter.unusedVariables false
set_option linter.unusedSimpArgs false
open Go.RowKit
/-! slices.DeleteFunc. -/
theorem filt_step {α : Type} {l : List α} {j : Nat} {x : α} (hx : l[j]? = some x) (q : α → Bool) : (l.take (j + 1)).filter q = (l.take j).filter q ++ (if q x = true then [x] else []) := by
  rw [List.take_add_one, hx, List.filter_append]
  congr 1
  by_cases h : q x = true
  · simp [h]
  · simp [h]
theorem idxI_split {α : Type} (l : List α) (p : α → Bool) : (idxI l p = -1 ∧ l.filter (fun x => !p x) = l) ∨ ∃ (k : Nat) (x : α), idxI l p = (k : Int) ∧ l[k]? = some x ∧ p x = true ∧ (l.take k).filter (fun x => !p x) = l.take k := by
  by_cases h : ∀ x ∈ l, p x = false
  · exact .inl ⟨idxI_none h, List.filter_eq_self.2 fun x hx => by rw [h x hx]; rfl⟩
  · right
    have hany : l.any p = true := by
      rw [List.any_eq_true]
      apply Classical.byContradiction
      intro h2
      apply h
      intro x hx
      cases hp : p x with
      | false => rfl
      | true => exact absurd ⟨x, hx, hp⟩ h2
    have hk : l.findIdx p < l.length := List.findIdx_lt_length.2 (List.any_eq_true.1 hany)
    have hpx : p (l[l.findIdx p]'hk) = true := List.findIdx_getElem
    have hno : ∀ y ∈ l.take (l.findIdx p), p y = false := by
      intro y hy
      obtain ⟨j, hj, rfl⟩ := List.mem_take_iff_getElem.1 hy
      have := List.not_of_lt_findIdx (p := p) (xs := l) (i := j) (by omega)
      simpa using this
    refine ⟨l.findIdx p, l[l.findIdx p]'hk, ?_, List.getElem?_eq_getElem hk, hpx, List.filter_eq_self.2 fun x hx => by rw [hno x hx]; rfl⟩
    exact idxI_at (List.getElem?_eq_getElem hk) hpx hno
theorem set_take_snoc {α : Type} {xs : List α} {i : Nat} {x : α} (hi : i < xs.length) : (xs.set i x).take (i + 1) = xs.take i ++ [x] := by
  rw [List.take_set, List.take_add_one, List.getElem?_eq_getElem hi]
  rw [List.set_append_right _ _ (by rw [List.length_take]; omega), List.length_take, Nat.min_eq_left (by omega), Nat.sub_self]
  rfl
theorem set_drop_far {α : Type} {xs : List α} {i j : Nat} {x : α} (h : i < j) : (xs.set i x).drop j = xs.drop j := by
  rw [List.drop_set, if_pos h]
/-- What stands in the rounds: i elements that stay, j that were looked at. -/
def DfI {α : Type} (l xs : List α) (p : α → Bool) (i j : Nat) : Prop := i < j ∧ j ≤ l.length ∧ xs.length = l.length ∧ xs.take i = (l.take j).filter (fun x => !p x) ∧ xs.drop j = l.drop j
theorem DfI.start {α : Type} {l : List α} {p : α → Bool} {k : Nat} {x : α} (hx : l[k]? = some x) (hp : p x = true) (h : (l.take k).filter (fun x => !p x) = l.take k) : DfI l l p k (k + 1) := by
  have hk := (List.getElem?_eq_some_iff.1 hx).1
  refine ⟨Nat.lt_succ_self _, hk, rfl, ?_, rfl⟩
  rw [filt_step hx, h, hp]; simp
theorem DfI.at {α : Type} {l xs : List α} {p : α → Bool} {i j : Nat} (h : DfI l xs p i j) (hj : j < l.length) : ∃ x, xs[j]? = some x ∧ l[j]? = some x := by
  obtain ⟨h1, h2, h3, h4, h5⟩ := h
  refine ⟨l[j], ?_, List.getElem?_eq_getElem hj⟩
  have := congrArg (fun t : List α => t[0]?) h5
  simp only [List.getElem?_drop, Nat.add_zero] at this
  rw [this, List.getElem?_eq_getElem hj]
theorem DfI.drop {α : Type} {l xs : List α} {p : α → Bool} {i j : Nat} {x : α} (h : DfI l xs p i j) (hx : l[j]? = some x) (hp : p x = true) : DfI l xs p i (j + 1) := by
  obtain ⟨h1, h2, h3, h4, h5⟩ := h
  have hj := (List.getElem?_eq_some_iff.1 hx).1
  refine ⟨by omega, hj, h3, ?_, ?_⟩
  · rw [filt_step hx, h4, hp]; simp
  · rw [← List.drop_drop, ← List.drop_drop, h5]
theorem DfI.keep {α : Type} {l xs : List α} {p : α → Bool} {i j : Nat} {x : α} (h : DfI l xs p i j) (hx : l[j]? = some x) (hp : p x = false) : DfI l (xs.set i x) p (i + 1) (j + 1) := by
  obtain ⟨h1, h2, h3, h4, h5⟩ := h
  have hj := (List.getElem?_eq_some_iff.1 hx).1
  refine ⟨by omega, hj, by rw [List.length_set, h3], ?_, ?_⟩
  · rw [filt_step hx, set_take_snoc (by omega), h4, hp]; simp
  · rw [set_drop_far (by omega), ← List.drop_drop, ← List.drop_drop, h5]
theorem DfI.fin {α : Type} {l xs : List α} {p : α → Bool} {i : Nat} (h : DfI l xs p i l.length) : xs.take i = l.filter (fun x => !p x) ∧ i = (l.filter (fun x => !p x)).length := by
  obtain ⟨h1, h2, h3, h4, h5⟩ := h
  rw [List.take_length] at h4
  refine ⟨h4, ?_⟩
  rw [← h4, List.length_take]; omega
theorem set_map {α β : Type} (f : α → β) : (xs : List α) → (i : Nat) → (x : α) → (xs.map f).set i (f x) = (xs.set i x).map f
  | [], i, x => rfl
  | y :: xs, 0, x => rfl
  | y :: xs, i + 1, x => by rw [List.map_cons, List.set_cons_succ, set_map f xs i x, List.set_cons_succ, List.map_cons]
theorem Tryd.zero_str (w : World) : (zeroValue 9).run Tryd.prog w = .ok (.string ByteArray.empty) w := by kernel_rfl
theorem Tryd.size_str (w : World) : (sizeOf 9).run Tryd.prog w = .ok 1 w := by kernel_rfl
theorem str_one : ∀ u ∈ (Value.string ByteArray.empty).cells, u.oneCell' = true := by
  intro u hu
  have : u = Value.string ByteArray.empty := by simpa [Value.cells] using hu
  rw [this]; rfl
set_option maxRecDepth 100000 in
set_option maxHeartbeats 1600000 in
theorem delS_calls (F cb : Nat) (o : Obj) (p : Bs → Bool) (hF : Own F) (hp : Tells str F cb o p) (w : World) (hcb : w.heap[cb]? = some o) (A : Option Addr) (c : Nat) (l : List Bs) (hr : Row w 0 9 1 (.slice A l.length c) l.length (l.map str))
    (hne : ∀ g, (Value.slice A l.length c).ownBlock = some g → g ≠ cb) (hl : l.length ≤ 1000000) :
    Calls Tryd.prog 42 #[.slice A l.length c, fnV F cb] w fun e w' => e = .returned (.slice A (l.filter (fun x => !p x)).length c) ∧
      Row w' 0 9 1 (.slice A (l.filter (fun x => !p x)).length c) (l.filter (fun x => !p x)).length ((l.filter (fun x => !p x)).map str) ∧ Fr (fun k => (Value.slice A l.length c).ownBlock = some k) w w' := by
  obtain ⟨A', c', e, hnc, hcm, hrd, _⟩ := hr.rd
  cases e
  have q1 := idxS_calls F cb o p hF hp w hcb A c l hrd hl
  have HP := Lib.hid hp
  have HC := Lib.hid hcb
  have HR := Lib.hid hr
  have HN := Lib.hid hne
  have hcf := hF
  unfold Own at hcf
  have hfrom := fun (k : Nat) (hk : k ≤ l.length) (W : World) => run_from (P := Tryd.prog) 29 9 1 Tryd.underlying29 Tryd.size_str A l.length c k hk hnc W
  have hupto := fun (k : Nat) (hk : k ≤ l.length) (W : World) => run_upto (P := Tryd.prog) 29 9 1 Tryd.underlying29 Tryd.size_str A l.length c k hk hnc W
  have HFR := Lib.hid hfrom
  have HUP := Lib.hid hupto
  clear hp hcb hr hne hfrom hupto hrd
  rcases idxI_split l p with ⟨hi, hf⟩ | ⟨k, x, hi, hx, hpx, hk⟩
  · rw [hi] at q1
    have Q1 := Lib.hid q1
    have HF := Lib.hid hf
    clear q1 hi hf
    go_enter Tryd.func42, Tryd.ntmps42
    go_wp2_with (go_at_call 58; (with_reducible refine Q1.out.mono ?_); rintro e w' ⟨rfl, hb2⟩)
    go_ret
    rw [HF.out]
    exact ⟨rfl, HR.out.below hb2 (Nat.le_refl _), Fr.of_fresh hb2⟩
  · rw [hi] at q1
    have hst := DfI.start hx hpx hk
    have Q1 := Lib.hid q1
    have hkl := (List.getElem?_eq_some_iff.1 hx).1
    have HST := Lib.hid hst
    clear q1 hi hx hpx hk hst
    have k0 : ((k : Int) == -1) = false := by rw [beq_eq_false_iff_ne]; omega
    go_enter Tryd.func42, Tryd.ntmps42
    go_wp2_with (go_at_call 58; (with_reducible refine Q1.out.mono ?_); rintro e w' ⟨rfl, hb2⟩)
    have HB2 := Lib.hid hb2
    clear hb2
    go_loopw [5, 6] (fun u5 u6 wr => ∃ (i j : Nat) (xs : List Bs), u5 = n64 i ∧ u6 = n64 j ∧ Hid (DfI l xs p i j) ∧ Hid (Row wr 0 9 1 (.slice A l.length c) l.length (xs.map str)) ∧ Hid (Fr (fun k => (Value.slice A l.length c).ownBlock = some k) w wr)) (fun _ u6 _ => (l.length - intOf u6).toNat)
    case atStart => exact ⟨k, k + 1, l, rfl, by go_num, HST, Lib.hid (HR.out.below HB2.out (Nat.le_refl _)), Lib.hid (Fr.of_fresh HB2.out)⟩
    case round =>
      obtain ⟨i, j, xs, rfl, rfl, HD, HRW, HFW⟩ := hrel
      have hij : i < j := HD.out.1
      have hjl : j ≤ l.length := HD.out.2.1
      by_cases hlt : j < l.length
      · obtain ⟨y, hy, hly⟩ := HD.out.at hlt
        obtain ⟨_, _, e, _, _, hrd, _⟩ := HRW.out.rd
        cases e
        obtain ⟨g, off, rfl, c0⟩ := hrd j (str y) (by rw [List.getElem?_map, hy]; rfl)
        have hW : wr.heap[cb]? = some o := (HFW.out.block cb (lt_of_heap HC.out) (fun h => HN.out cb h rfl)).trans HC.out
        have Q := Lib.hid (HP.out wr y hW)
        have HLY := Lib.hid hly
        clear hy hly hrd hW
        by_cases hpy : p y = true
        · rw [hpy] at Q
          have HD2 := Lib.hid (HD.out.drop HLY.out hpy)
          clear hpy
          go_wp2_with ((with_reducible refine Q.out.mono ?_); rintro e w' ⟨rfl, hb3⟩)
          go_roundw
          case rel => exact ⟨i, j + 1, xs, rfl, by go_num, HD2, Lib.hid (HRW.out.below hb3 (Nat.le_refl _)), Lib.hid (HFW.out.trans (Fr.of_fresh hb3) (fun _ _ h => h))⟩
          case measure => simp [intOf]; omega
        · have hpf : p y = false := by simpa using hpy
          rw [hpf] at Q
          have HD2 := Lib.hid (HD.out.keep HLY.out hpf)
          obtain ⟨z, hz⟩ : ∃ z, (xs.map str)[i]? = some (str z) := ⟨xs[i]'(by rw [HD.out.2.2.1]; omega), by rw [List.getElem?_map, List.getElem?_eq_getElem]; rfl⟩
          have HZ := Lib.hid hz
          clear hpy hpf hz
          go_wp2_with ((with_reducible refine Q.out.mono ?_); rintro e w3 ⟨rfl, hb3⟩; obtain ⟨g2, off2, e2, _, hlt2, hcl, hfz, hset⟩ := (HRW.out.below hb3 (Nat.le_refl _)).set1 (show i < l.length by omega); cases e2; rw [HZ.out] at hcl)
          go_roundw
          case rel => exact ⟨i + 1, j + 1, xs.set i y, by go_num, by go_num, HD2, Lib.hid (by rw [← set_map]; exact hset (str y)), Lib.hid ((HFW.out.trans (Fr.of_fresh hb3) (fun _ _ h => h)).trans (Fr.setCell _ _ _) (fun _ _ h => by rw [h]; rfl))⟩
          case measure => simp [intOf]; omega
      · obtain rfl : j = l.length := by omega
        obtain ⟨e1, e2⟩ := HD.out.fin
        have hil : i ≤ l.length := by omega
        have hf1 := HFR.out i hil
        have hf2 := HUP.out i hil
        have HE1 := Lib.hid e1
        have HE2 := Lib.hid e2
        clear e1 e2
        obtain ⟨w4, hcl, hrow4, hg4⟩ := run_clear_tail (sz := 1) (P := Tryd.prog) wr 29 9 0 (.string ByteArray.empty) Tryd.underlying29 Tryd.zero_str str_one rfl HRW.out hil
        go_wp2
        go_ret
        rw [Nat.mul_one, ← List.map_take, HE1.out] at hrow4
        rw [HE2.out] at hrow4 ⊢
        exact ⟨rfl, hrow4, HFW.out.trans (Fr.of_grown hg4) (fun _ _ h => h)⟩
end Go.Proofs.YtpemjhghiccngaaDoor
namespace Go.Proofs.YtpemjhghiccngaaDoor
set_option linter.unusedVariables false
set_option linter.unusedSimpArgs false
open Go.RowKit
/-! slices.DeleteFunc of entries. -/
theorem Tryd.zero_ent (w : World) : (zeroValue 35).run Tryd.prog w = .ok (.agg #[.int .i64 0, .string ByteArray.empty, .string ByteArray.empty]) w := by kernel_rfl
theorem Tryd.size_ent (w : World) : (sizeOf 35).run Tryd.prog w = .ok 3 w := by kernel_rfl
theorem ent_one : ∀ u ∈ (Value.agg #[.int .i64 0, .string ByteArray.empty, .string ByteArray.empty]).cells, u.oneCell' = true := by
  intro u hu
  have : u = .int .i64 0 ∨ u = Value.string ByteArray.empty := by simpa [Value.cells] using hu
  rcases this with rfl | rfl <;> rfl
theorem new_ent (W : World) (e : EntT) (T : TypeId) : ∃ W', W.alloc (.cells #[.int .i64 e.t, str e.d, str e.c] T) = W' ∧ W'.heap[W.heap.size]? = some (.cells #[.int .i64 e.t, str e.d, str e.c] T (0, 0)) ∧ Below W.heap.size W W' :=
  ⟨_, rfl, heap_alloc_new W _, (Below.refl _ W).alloc (Nat.le_refl _) _⟩
theorem ent_cells {W : World} {b : Nat} {T : TypeId} {x y z : Value} (h : W.heap[b]? = some (.cells #[x, y, z] T (0, 0))) : W.cell? ⟨b, 0, none⟩ = some x ∧ W.cell? ⟨b, 1, none⟩ = some y ∧ W.cell? ⟨b, 2, none⟩ = some z := by
  refine ⟨?_, ?_, ?_⟩ <;> (rw [cell_of_row W b _ _ _ (0, 0) h]; rfl)
set_option maxRecDepth 100000 in
set_option maxHeartbeats 1600000 in
theorem delE_calls (F cb : Nat) (o : Obj) (p : EntT → Bool) (hF : Own F) (hp : Tells entV F cb o p) (w : World) (hcb : w.heap[cb]? = some o) (A : Option Addr) (c : Nat) (l : List EntT) (hr : Row w 0 35 3 (.slice A l.length c) l.length (flatE l))
    (hne : ∀ g, (Value.slice A l.length c).ownBlock = some g → g ≠ cb) (hl : l.length ≤ 1000000) :
    Calls Tryd.prog 44 #[.slice A l.length c, fnV F cb] w fun e w' => e = .returned (.slice A (l.filter (fun x => !p x)).length c) ∧
      Row w' 0 35 3 (.slice A (l.filter (fun x => !p x)).length c) (l.filter (fun x => !p x)).length (flatE (l.filter (fun x => !p x))) ∧ Fr (fun k => (Value.slice A l.length c).ownBlock = some k) w w' := by
  obtain ⟨A', c', e, hnc, hcm, hrd, _⟩ := hr.rd
  cases e
  have q1 := idxE_calls F cb o p hF hp w hcb A c l hrd hl
  have HP := Lib.hid hp
  have HC := Lib.hid hcb
  have HR := Lib.hid hr
  have HN := Lib.hid hne
  have hcf := hF
  unfold Own at hcf
  have hfrom := fun (k : Nat) (hk : k ≤ l.length) (W : World) => run_from (P := Tryd.prog) 39 35 3 Tryd.underlying39 Tryd.size_ent A l.length c k hk hnc W
  have hupto := fun (k : Nat) (hk : k ≤ l.length) (W : World) => run_upto (P := Tryd.prog) 39 35 3 Tryd.underlying39 Tryd.size_ent A l.length c k hk hnc W
  have HFR := Lib.hid hfrom
  have HUP := Lib.hid hupto
  clear hp hcb hr hne hfrom hupto hrd
  rcases idxI_split l p with ⟨hi, hf⟩ | ⟨k, x, hi, hx, hpx, hk⟩
  · rw [hi] at q1
    have Q1 := Lib.hid q1
    have HF := Lib.hid hf
    clear q1 hi hf
    go_enter Tryd.func44, Tryd.ntmps44
    go_wp2_with (go_at_call 40; (with_reducible refine Q1.out.mono ?_); rintro e w' ⟨rfl, hb2⟩)
    go_ret
    rw [HF.out]
    exact ⟨rfl, HR.out.below hb2 (Nat.le_refl _), Fr.of_fresh hb2⟩
  · rw [hi] at q1
    have hst := DfI.start hx hpx hk
    have Q1 := Lib.hid q1
    have hkl := (List.getElem?_eq_some_iff.1 hx).1
    have HST := Lib.hid hst
    clear q1 hi hx hpx hk hst
    have k0 : ((k : Int) == -1) = false := by rw [beq_eq_false_iff_ne]; omega
    go_enter Tryd.func44, Tryd.ntmps44
    go_wp2_with (go_at_call 40; (with_reducible refine Q1.out.mono ?_); rintro e w' ⟨rfl, hb2⟩)
    have HB2 := Lib.hid hb2
    clear hb2
    go_loopw [5, 6] (fun u5 u6 wr => ∃ (i j : Nat) (xs : List EntT), u5 = n64 i ∧ u6 = n64 j ∧ Hid (DfI l xs p i j) ∧ Hid (Row wr 0 35 3 (.slice A l.length c) l.length (flatE xs)) ∧ Hid (Fr (fun k => (Value.slice A l.length c).ownBlock = some k) w wr)) (fun _ u6 _ => (l.length - intOf u6).toNat)
    case atStart => exact ⟨k, k + 1, l, rfl, by go_num, HST, Lib.hid (HR.out.below HB2.out (Nat.le_refl _)), Lib.hid (Fr.of_fresh HB2.out)⟩
    case round =>
      obtain ⟨i, j, xs, rfl, rfl, HD, HRW, HFW⟩ := hrel
      have hij : i < j := HD.out.1
      have hjl : j ≤ l.length := HD.out.2.1
      by_cases hlt : j < l.length
      · obtain ⟨y, hy, hly⟩ := HD.out.at hlt
        obtain ⟨_, _, e, _, _, hrd, _⟩ := HRW.out.rd
        cases e
        obtain ⟨g, off, rfl, c0, c1, c2⟩ := RdE.at hrd hy
        obtain ⟨wv, ev, hv, bv⟩ := new_ent wr y 35
        obtain ⟨v0, v1, v2⟩ := ent_cells hv
        have hW : wv.heap[cb]? = some o := (bv.block cb (Nat.lt_of_lt_of_le (lt_of_heap HC.out) HFW.out.size)).trans ((HFW.out.block cb (lt_of_heap HC.out) (fun h => HN.out cb h rfl)).trans HC.out)
        have q := HP.out wv y hW
        unfold entV at q
        have Q := Lib.hid q
        have HLY := Lib.hid hly
        have HEV := Lib.hid ev
        have HV := Lib.hid hv
        have HBV := Lib.hid bv
        clear hy hly hrd hW q ev bv hv
        by_cases hpy : p y = true
        · rw [hpy] at Q
          have HD2 := Lib.hid (HD.out.drop HLY.out hpy)
          clear hpy
          go_wp2_with fail
          rw [HEV.out]
          go_wp2_with ((with_reducible refine Q.out.mono ?_); rintro e w' ⟨rfl, hb3⟩)
          go_roundw
          case rel => exact ⟨i, j + 1, xs, rfl, by go_num, HD2, Lib.hid ((HRW.out.below HBV.out (Nat.le_refl _)).below hb3 (Nat.le_refl _)), Lib.hid ((HFW.out.trans (Fr.of_fresh HBV.out) (fun _ _ h => h)).trans (Fr.of_fresh hb3) (fun _ _ h => h))⟩
          case measure => simp [intOf]; omega
        · have hpf : p y = false := by simpa using hpy
          rw [hpf] at Q
          have HD2 := Lib.hid (HD.out.keep HLY.out hpf)
          obtain ⟨z, hz⟩ : ∃ z, xs[i]? = some z := ⟨xs[i]'(by rw [HD.out.2.2.1]; omega), List.getElem?_eq_getElem _⟩
          have HZ := Lib.hid (flatE_at hz)
          clear hpy hpf hz
          go_wp2_with fail
          rw [HEV.out]
          clear v0 v1 v2
          refine Q.out.mono ?_
          rintro e w3 ⟨rfl, hb3⟩
          have hv3 := (hb3.block _ (lt_of_heap HV.out)).trans HV.out
          obtain ⟨v0, v1, v2⟩ := ent_cells hv3
          obtain ⟨g2, off2, e2, _, hlt2, hcl, hset⟩ := ((HRW.out.below HBV.out (Nat.le_refl _)).below hb3 (Nat.le_refl _)).set3 (show i < l.length by omega)
          cases e2
          obtain ⟨d0, f0⟩ := hcl 0 (by omega)
          obtain ⟨d1, f1⟩ := hcl 1 (by omega)
          obtain ⟨d2, f2⟩ := hcl 2 (by omega)
          rw [Nat.add_zero, Nat.add_zero, HZ.out.1] at d0
          rw [Nat.add_zero] at f0
          rw [HZ.out.2.1] at d1
          rw [HZ.out.2.2] at d2
          have HSET := Lib.hid hset
          have HB3 := Lib.hid hb3
          clear hcl hset hb3 hv3
          go_wp2
          go_roundw
          case rel => exact ⟨i + 1, j + 1, xs.set i y, by go_num, by go_num, HD2, Lib.hid (by rw [← flatE_set]; exact HSET.out _ _ _), Lib.hid (((((HFW.out.trans (Fr.of_fresh HBV.out) (fun _ _ h => h)).trans (Fr.of_fresh HB3.out) (fun _ _ h => h)).trans (Fr.setCell _ _ _) (fun _ _ h => by rw [h]; rfl)).trans (Fr.setCell _ _ _) (fun _ _ h => by rw [h]; rfl)).trans (Fr.setCell _ _ _) (fun _ _ h => by rw [h]; rfl))⟩
          case measure => simp [intOf]; omega
      · obtain rfl : j = l.length := by omega
        obtain ⟨e1, e2⟩ := HD.out.fin
        have hil : i ≤ l.length := by omega
        have hf1 := HFR.out i hil
        have hf2 := HUP.out i hil
        have HE1 := Lib.hid e1
        have HE2 := Lib.hid e2
        clear e1 e2
        obtain ⟨w4, hcl, hrow4, hg4⟩ := run_clear_tail (sz := 3) (P := Tryd.prog) wr 39 35 0 (.agg #[.int .i64 0, .string ByteArray.empty, .string ByteArray.empty]) Tryd.underlying39 Tryd.zero_ent ent_one rfl HRW.out hil
        go_wp2
        go_ret
        rw [flatE_take, HE1.out] at hrow4
        rw [HE2.out] at hrow4 ⊢
        exact ⟨rfl, hrow4, HFW.out.trans (Fr.of_grown hg4) (fun _ _ h => h)⟩
end Go.Proofs.YtpemjhghiccngaaDoor
