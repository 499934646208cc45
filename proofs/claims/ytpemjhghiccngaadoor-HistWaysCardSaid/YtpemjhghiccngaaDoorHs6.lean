import Derived.Test.YtpemjhghiccngaaDoorHs4
import Derived.Laws.StructEq
namespace Go.Proofs.YtpemjhghiccngaaDoor
set_option linter.unusedVariables false
set_option linter.unusedSimpArgs false
open Go.RowKit
/-! few, texts, Same, Old, New. -/
def sumE : List EntT → Nat
  | [] => 0
  | o :: r => (o.d.length + o.c.length) + sumE r
theorem sumE_app : (a b : List EntT) → sumE (a ++ b) = sumE a + sumE b
  | [], b => by simp [sumE]
  | o :: a, b => by simp only [List.cons_append, sumE, sumE_app a b]; omega
theorem sumE_le : (a : List EntT) → (M : Nat) → (∀ o ∈ a, o.d.length + o.c.length ≤ M) → sumE a ≤ a.length * M
  | [], _, _ => by simp [sumE]
  | o :: a, M, h => by
      have h1 := h o (List.mem_cons_self ..)
      have h2 := sumE_le a M fun x hx => h x (List.mem_cons_of_mem _ hx)
      rw [sumE, List.length_cons, Nat.add_mul]; omega
def fewE (l : List EntT) : Bool := decide (l.length ≤ 120 ∧ sumE l ≤ 8000)
set_option maxHeartbeats 1600000 in
theorem few15_calls (w : World) (A : Option Addr) (c : Nat) (l : List EntT) (hr : Rd w A (flatE l)) (hA : ∀ a, A = some a → l ≠ [] → a.block < w.heap.size) (hl : l.length ≤ 140737488351232) (hk : ∀ o ∈ l, o.d.length ≤ 140737488351232 ∧ o.c.length ≤ 140737488351232) :
    Calls Tryd.prog 10 #[.slice A l.length c] w fun e w' => e = .returned (.bool (fewE l)) ∧ Below w.heap.size w w' := by
  have HK := Lib.hid hk
  have HR := Lib.hid hr
  clear hk hr
  by_cases h80 : l.length ≤ 120
  · go_enter Tryd.func10, Tryd.ntmps10
    go_wp2
    go_loopw [3, 8] (fun u3 u8 wr => ∃ (j m : Nat), u8 = n64 j ∧ j ≤ l.length ∧ u3 = n64 m ∧ m = sumE (l.take j) ∧ Below w.heap.size w wr) (fun _ u8 _ => (l.length - intOf u8).toNat)
    case atStart => exact ⟨0, 0, rfl, Nat.zero_le _, rfl, rfl, Below.refl _ _⟩
    case round =>
      obtain ⟨j, m, rfl, hj, rfl, hm, hb⟩ := hrel
      have HB := Lib.hid hb
      have HM := Lib.hid hm
      have hmle : m ≤ 120 * 281474976702464 := by
        have h1 := sumE_le (l.take j) 281474976702464 fun o ho => by have := HK.out o (List.mem_of_mem_take ho); omega
        have h2 : (l.take j).length ≤ 120 := by rw [List.length_take]; omega
        rw [hm]
        exact Nat.le_trans h1 (Nat.mul_le_mul_right _ h2)
      have hbs := hb.size
      clear hb hm
      by_cases hlt : j < l.length
      · obtain ⟨o, ho⟩ : ∃ o, l[j]? = some o := ⟨_, List.getElem?_eq_getElem hlt⟩
        have hRw : Rd wr A (flatE l) := HR.out.below HB.out fun a ha _ => hA a ha (by intro e; subst e; simp at hlt)
        obtain ⟨g, off, rfl, c0, c1, c2⟩ := RdE.at hRw ho
        obtain ⟨so, hso⟩ : ∃ s : ByteArray, s = ⟨o.d.toArray⟩ := ⟨_, rfl⟩
        rw [lit_of hso] at c1
        have hsz : so.size = o.d.length := by rw [hso, str_of]
        obtain ⟨sp, hsp⟩ : ∃ s : ByteArray, s = ⟨o.c.toArray⟩ := ⟨_, rfl⟩
        rw [lit_of hsp] at c2
        have hpz : sp.size = o.c.length := by rw [hsp, str_of]
        have hko := HK.out o (List.mem_of_getElem? ho)
        have hks : so.size ≤ 140737488351232 := by omega
        have hkp : sp.size ≤ 140737488351232 := by omega
        have htk : sumE (l.take (j + 1)) = m + (so.size + sp.size) := by rw [List.take_add_one, ho, HM.out, sumE_app, hsz, hpz]; simp [sumE]
        have HTK := Lib.hid htk
        have hjl : (j : Int) < (l.length : Int) := by omega
        clear htk hsz hso hpz hsp ho hRw hko hA
        go_wp2
        go_roundw
        case rel => exact ⟨j + 1, m + (so.size + sp.size), by go_num, by omega, by go_num, HTK.out.symm, HB.out.alloc (by omega) _⟩
        case measure => simp [intOf]; omega
      · obtain rfl : j = l.length := by omega
        have hfin : fewE l = decide (m ≤ 8000) := by
          unfold fewE
          rw [HM.out, List.take_length]
          simp [h80]
        have HF := Lib.hid hfin
        clear hfin hA
        have h80i : decide ((l.length : Int) ≤ 120) = true := by simp; omega
        by_cases hm2 : m ≤ 8000
        · have hmi : decide ((m : Int) ≤ 8000) = true := by simp; omega
          go_wp2
          go_ret
          exact ⟨by rw [HF.out, decide_eq_true hm2]; rfl, HB.out⟩
        · have hmi : decide ((m : Int) ≤ 8000) = false := by simp; omega
          go_wp2
          go_ret
          exact ⟨by rw [HF.out, decide_eq_false hm2]; rfl, HB.out⟩
  · go_enter Tryd.func10, Tryd.ntmps10
    go_wp2
    go_loopw [3, 8] (fun u3 u8 wr => ∃ (j : Nat) (m : Int), u8 = n64 j ∧ j ≤ l.length ∧ u3 = .int .i64 m ∧ Below w.heap.size w wr) (fun _ u8 _ => (l.length - intOf u8).toNat)
    case atStart => exact ⟨0, 0, rfl, Nat.zero_le _, rfl, Below.refl _ _⟩
    case round =>
      obtain ⟨j, m, rfl, hj, rfl, hb⟩ := hrel
      have HB := Lib.hid hb
      have hbs := hb.size
      clear hb
      by_cases hlt : j < l.length
      · obtain ⟨o, ho⟩ : ∃ o, l[j]? = some o := ⟨_, List.getElem?_eq_getElem hlt⟩
        have hRw : Rd wr A (flatE l) := HR.out.below HB.out fun a ha _ => hA a ha (by intro e; subst e; simp at hlt)
        obtain ⟨g, off, rfl, c0, c1, c2⟩ := RdE.at hRw ho
        have hjl : (j : Int) < (l.length : Int) := by omega
        clear ho hRw hA
        go_wp2
        go_roundw
        case rel => exact ⟨j + 1, _, by go_num, by omega, rfl, HB.out.alloc (by omega) _⟩
        case measure => simp [intOf]; omega
      · obtain rfl : j = l.length := by omega
        have hfin : fewE l = false := by
          unfold fewE
          simp [h80]
        have HF := Lib.hid hfin
        clear hfin hA
        have h80i : decide ((l.length : Int) ≤ 120) = false := by simp; omega
        go_wp2
        go_ret
        exact ⟨by rw [HF.out]; rfl, HB.out⟩
end Go.Proofs.YtpemjhghiccngaaDoor
namespace Go.Proofs.YtpemjhghiccngaaDoor
set_option linter.unusedVariables false
set_option linter.unusedSimpArgs false
open Go.RowKit
/-! '==' of entries. -/
theorem eq3_fields {P : Program} {ts ti : TypeId} (f g h : Field) (hf : f.type = ti ∧ f.offset = 0 ∧ f.name ≠ "_") (hg : g.type = ts ∧ g.offset = 1 ∧ g.name ≠ "_") (hh : h.type = ts ∧ h.offset = 2 ∧ h.name ≠ "_") (h1 : P.underlying ts = some .string) (h2 : P.underlying ti = some (.int .i64))
    (n m : Int) (x y x' y' : ByteArray) (W : World) : (Op.eqFields 9999 #[.int .i64 n, .string x, .string x'] #[.int .i64 m, .string y, .string y'] [f, g, h]).run P W = .ok ((n == m) && ((x.toList == y.toList) && (x'.toList == y'.toList))) W := by
  obtain ⟨rfl, ho, hn⟩ := hf
  obtain ⟨rfl, go, gn⟩ := hg
  obtain ⟨he, eo, en⟩ := hh
  have p1 : ∀ u v z W, (part f.type #[u, v, z] f.offset).run P W = .ok u W := fun u v z W => by rw [ho]; simp [part, isAgg, run_underlying h2, go_sem]
  have p2 : ∀ u v z W, (part g.type #[u, v, z] g.offset).run P W = .ok v W := fun u v z W => by rw [go]; simp [part, isAgg, run_underlying h1, go_sem]
  have p3 : ∀ u v z W, (part h.type #[u, v, z] h.offset).run P W = .ok z W := fun u v z W => by rw [eo, he]; simp [part, isAgg, run_underlying h1, go_sem]
  have q3 : ∀ a b W, (Op.equalIn 9999 h.type (.string a) (.string b)).run P W = .ok (a.toList == b.toList) W := fun a b W => by rw [he]; exact run_equalIn_string W 9998 _ a b h1
  simp only [Op.eqFields, hn, gn, en, ne_eq, not_false_eq_true, if_true, Sem.run_bind, p1, p2, p3, Result.andThen_ok, run_equalIn_string W 9998 g.type x y h1, run_equalIn_int W 9998 f.type .i64 .i64 n m h2]
  cases hd : (n == m) with
  | false => simp
  | true =>
    simp only [Bool.not_true, Bool.false_eq_true, if_false, Sem.run_bind, p2, p3, Result.andThen_ok, run_equalIn_string W 9998 g.type x y h1, Bool.true_and]
    cases hc : (x.toList == y.toList) with
    | false => simp
    | true =>
      simp only [Bool.not_true, Bool.false_eq_true, if_false, Sem.run_bind, p3, Result.andThen_ok, q3, Bool.true_and]
      cases hk : (x'.toList == y'.toList) <;> simp
theorem ent_beq (x y : EntT) : (x.t == y.t && ((⟨x.d.toArray⟩ : ByteArray).toList == (⟨y.d.toArray⟩ : ByteArray).toList && (⟨x.c.toArray⟩ : ByteArray).toList == (⟨y.c.toArray⟩ : ByteArray).toList)) = decide (x = y) := by
  rw [str_beq (p := ⟨x.d.toArray⟩) (q := ⟨y.d.toArray⟩) rfl rfl, str_beq (p := ⟨x.c.toArray⟩) (q := ⟨y.c.toArray⟩) rfl rfl]
  obtain ⟨a, b, c⟩ := x
  obtain ⟨a', b', c'⟩ := y
  rw [Bool.eq_iff_iff]
  simp
theorem Tryd.eq_rent (x y : EntT) (W : World) : (binOp .eql 28 (entV x) (entV y)).run Tryd.prog W = .ok (.bool (decide (x = y))) W := by
  obtain ⟨f, g, h, hfg, hf, hg, hh⟩ : ∃ f g h : Field, (Tryd.prog.fieldsOf 28).toList = [f, g, h] ∧ (f.type = 3 ∧ f.offset = 0 ∧ f.name = "Time") ∧ (g.type = 9 ∧ g.offset = 1 ∧ g.name = "Dir") ∧ (h.type = 9 ∧ h.offset = 2 ∧ h.name = "Cmd") := ⟨⟨"Time", 3, 0, false, "", "", 0⟩, ⟨"Dir", 9, 1, false, "", "", 8⟩, ⟨"Cmd", 9, 2, false, "", "", 24⟩, by kernel_rfl, ⟨rfl, rfl, rfl⟩, ⟨rfl, rfl, rfl⟩, ⟨rfl, rfl, rfl⟩⟩
  unfold entV
  rw [run_eql_struct, run_equalIn_agg W 9999 _ _ _ (by kernel_rfl) (by kernel_rfl), hfg, eq3_fields f g h ⟨hf.1, hf.2.1, by rw [hf.2.2]; decide⟩ ⟨hg.1, hg.2.1, by rw [hg.2.2]; decide⟩ ⟨hh.1, hh.2.1, by rw [hh.2.2]; decide⟩ Tryd.underlying9 Tryd.underlying3, ent_beq]
  rfl
theorem Tryd.ne_rent (x y : EntT) (W : World) : (binOp .neq 28 (entV x) (entV y)).run Tryd.prog W = .ok (.bool (!decide (x = y))) W := by
  obtain ⟨f, g, h, hfg, hf, hg, hh⟩ : ∃ f g h : Field, (Tryd.prog.fieldsOf 28).toList = [f, g, h] ∧ (f.type = 3 ∧ f.offset = 0 ∧ f.name = "Time") ∧ (g.type = 9 ∧ g.offset = 1 ∧ g.name = "Dir") ∧ (h.type = 9 ∧ h.offset = 2 ∧ h.name = "Cmd") := ⟨⟨"Time", 3, 0, false, "", "", 0⟩, ⟨"Dir", 9, 1, false, "", "", 8⟩, ⟨"Cmd", 9, 2, false, "", "", 24⟩, by kernel_rfl, ⟨rfl, rfl, rfl⟩, ⟨rfl, rfl, rfl⟩, ⟨rfl, rfl, rfl⟩⟩
  unfold entV
  rw [run_neq_struct, run_equalIn_agg W 9999 _ _ _ (by kernel_rfl) (by kernel_rfl), hfg, eq3_fields f g h ⟨hf.1, hf.2.1, by rw [hf.2.2]; decide⟩ ⟨hg.1, hg.2.1, by rw [hg.2.2]; decide⟩ ⟨hh.1, hh.2.1, by rw [hh.2.2]; decide⟩ Tryd.underlying9 Tryd.underlying3, ent_beq]
  rfl
/-! texts, Same. -/
theorem belowN {B : Nat} {w W : World} (h : Below B w W) (n : Nat) : Below B w (W.drewN n) := ⟨h.os, h.tape, h.output, h.size, h.block⟩
theorem eq_take {α : Type} {a b : List α} {k : Nat} {x y : α} (h : a.take k = b.take k) (hx : a[k]? = some x) (hy : b[k]? = some y) (he : x = y) : a.take (k + 1) = b.take (k + 1) := by
  rw [List.take_add_one, List.take_add_one, h, hx, hy, he]
theorem ne_at {α : Type} {a b : List α} {k : Nat} {x y : α} (hx : a[k]? = some x) (hy : b[k]? = some y) (he : x ≠ y) : a ≠ b := fun e => by
  rw [e, hy] at hx; exact he (Option.some.inj hx).symm
set_option maxHeartbeats 1600000 in
theorem texts_calls (w : World) (A : Option Addr) (c : Nat) (a : List Bs) (A' : Option Addr) (c' : Nat) (b : List Bs) (ha : Rd w A (a.map str)) (hb : Rd w A' (b.map str)) (hla : a.length ≤ 1000000) (hlb : b.length ≤ 1000000) :
    Calls Tryd.prog 15 #[.slice A a.length c, .slice A' b.length c'] w fun e w' => e = .returned (.bool (decide (a = b))) ∧ Below w.heap.size w w' := by
  have HA := Lib.hid ha
  have HB := Lib.hid hb
  clear ha hb
  by_cases hl : a.length = b.length
  rotate_left
  · have hf : decide (a = b) = false := decide_eq_false fun e => hl (by rw [e])
    have i1 : ((a.length : Int) != (b.length : Int)) = true := by rw [bne_iff_ne]; omega
    have HF := Lib.hid hf
    clear hf hl
    go_enter Tryd.func15, Tryd.ntmps15
    go_wp2
    go_ret
    exact ⟨by rw [HF.out]; rfl, Below.refl _ _⟩
  · have i1 : ((a.length : Int) != (b.length : Int)) = false := by rw [bne_eq_false_iff_eq]; omega
    go_enter Tryd.func15, Tryd.ntmps15
    go_wp2
    go_loopw [13] (fun u13 wr => ∃ k : Nat, u13 = n64 k ∧ k ≤ a.length ∧ Hid (a.take k = b.take k) ∧ Hid (Below w.heap.size w wr)) (fun u13 _ => (a.length - intOf u13).toNat)
    case atStart => exact ⟨0, rfl, Nat.zero_le _, Lib.hid (by simp), Lib.hid (Below.refl _ _)⟩
    case round =>
      obtain ⟨k, rfl, hk, HT, HW⟩ := hrel
      by_cases hlt : k < a.length
      · obtain ⟨x, hx⟩ : ∃ x, a[k]? = some x := ⟨_, List.getElem?_eq_getElem hlt⟩
        obtain ⟨y, hy⟩ : ∃ y, b[k]? = some y := ⟨_, List.getElem?_eq_getElem (by omega)⟩
        obtain ⟨g, off, rfl, c0⟩ := (HA.out.later HW.out) k (str x) (by rw [List.getElem?_map, hx]; rfl)
        obtain ⟨g', off', rfl, d0⟩ := (HB.out.later HW.out) k (str y) (by rw [List.getElem?_map, hy]; rfl)
        obtain ⟨sx, hsx⟩ : ∃ s : ByteArray, s = ⟨x.toArray⟩ := ⟨_, rfl⟩
        obtain ⟨sy, hsy⟩ : ∃ s : ByteArray, s = ⟨y.toArray⟩ := ⟨_, rfl⟩
        have hbe := str_beq hsx hsy
        rw [lit_of hsx] at c0
        rw [lit_of hsy] at d0
        have b1 : (k : Int) < (a.length : Int) := by omega
        have b2 : (k : Int) < (b.length : Int) := by omega
        have b0 : (0 : Int) ≤ (k : Int) := by omega
        by_cases hxy : x = y
        · have hT := Lib.hid (eq_take HT.out hx hy hxy)
          rw [decide_eq_true hxy] at hbe
          have hbn : (sx.toList != sy.toList) = false := by rw [bne, hbe]; rfl
          clear hx hy hsx hsy hxy
          go_wp2
          go_quiet (fail)
          rename_i nq
          go_wp2
          go_roundw
          case rel => exact ⟨k + 1, by go_num, by omega, hT, Lib.hid (belowN HW.out nq)⟩
          case measure => simp [intOf]; omega
        · have hf : decide (a = b) = false := decide_eq_false (ne_at hx hy hxy)
          have HF := Lib.hid hf
          rw [decide_eq_false hxy] at hbe
          have hbn : (sx.toList != sy.toList) = true := by rw [bne, hbe]; rfl
          clear hx hy hsx hsy hxy hf
          go_wp2
          go_quiet (fail)
          rename_i nq
          go_wp2
          go_ret
          exact ⟨by rw [HF.out]; rfl, belowN HW.out nq⟩
      · obtain rfl : k = a.length := by omega
        have hf : decide (a = b) = true := decide_eq_true (by have := HT.out; rwa [List.take_length, hl, List.take_length] at this)
        have HF := Lib.hid hf
        clear hf
        go_wp2
        go_ret
        exact ⟨by rw [HF.out]; rfl, HW.out⟩
end Go.Proofs.YtpemjhghiccngaaDoor
namespace Go.Proofs.YtpemjhghiccngaaDoor
set_option linter.unusedVariables false
set_option linter.unusedSimpArgs false
open Go.RowKit
set_option maxHeartbeats 1600000 in
theorem Same_calls (w : World) (A : Option Addr) (c : Nat) (a : List EntT) (A' : Option Addr) (c' : Nat) (b : List EntT) (ha : Rd w A (flatE a)) (hb : Rd w A' (flatE b)) (hla : a.length ≤ 1000000) (hlb : b.length ≤ 1000000) :
    Calls Tryd.prog 16 #[.slice A a.length c, .slice A' b.length c'] w fun e w' => e = .returned (.bool (decide (a = b))) ∧ Below w.heap.size w w' := by
  have HA := Lib.hid ha
  have HB := Lib.hid hb
  clear ha hb
  by_cases hl : a.length = b.length
  rotate_left
  · have hf : decide (a = b) = false := decide_eq_false fun e => hl (by rw [e])
    have i1 : ((a.length : Int) != (b.length : Int)) = true := by rw [bne_iff_ne]; omega
    have HF := Lib.hid hf
    clear hf hl
    go_enter Tryd.func16, Tryd.ntmps16
    go_wp2
    go_ret
    exact ⟨by rw [HF.out]; rfl, Below.refl _ _⟩
  · have i1 : ((a.length : Int) != (b.length : Int)) = false := by rw [bne_eq_false_iff_eq]; omega
    go_enter Tryd.func16, Tryd.ntmps16
    go_wp2
    go_loopw [5] (fun u13 wr => ∃ k : Nat, u13 = n64 k ∧ k ≤ a.length ∧ Hid (a.take k = b.take k) ∧ Hid (Below w.heap.size w wr)) (fun u13 _ => (a.length - intOf u13).toNat)
    case atStart => exact ⟨0, rfl, Nat.zero_le _, Lib.hid (by simp), Lib.hid (Below.refl _ _)⟩
    case round =>
      obtain ⟨k, rfl, hk, HT, HW⟩ := hrel
      by_cases hlt : k < a.length
      · obtain ⟨x, hx⟩ : ∃ x, a[k]? = some x := ⟨_, List.getElem?_eq_getElem hlt⟩
        obtain ⟨y, hy⟩ : ∃ y, b[k]? = some y := ⟨_, List.getElem?_eq_getElem (by omega)⟩
        obtain ⟨g, off, rfl, c0, c1, c2⟩ := RdE.at (HA.out.later HW.out) hx
        obtain ⟨g', off', rfl, d0, d1, d2⟩ := RdE.at (HB.out.later HW.out) hy
        have hne := Tryd.ne_rent x y
        unfold entV at hne
        have b1 : (k : Int) < (a.length : Int) := by omega
        have b2 : (k : Int) < (b.length : Int) := by omega
        have b0 : (0 : Int) ≤ (k : Int) := by omega
        by_cases hxy : x = y
        · have hT := Lib.hid (eq_take HT.out hx hy hxy)
          rw [decide_eq_true hxy] at hne
          clear hx hy hxy
          go_wp2
          go_quiet (fail)
          rename_i nq
          go_wp2
          go_roundw
          case rel => exact ⟨k + 1, by go_num, by omega, hT, Lib.hid (belowN HW.out nq)⟩
          case measure => simp [intOf]; omega
        · have hf : decide (a = b) = false := decide_eq_false (ne_at hx hy hxy)
          have HF := Lib.hid hf
          rw [decide_eq_false hxy] at hne
          clear hx hy hxy hf
          go_wp2
          go_quiet (fail)
          rename_i nq
          go_wp2
          go_ret
          exact ⟨by rw [HF.out]; rfl, belowN HW.out nq⟩
      · obtain rfl : k = a.length := by omega
        have hf : decide (a = b) = true := decide_eq_true (by have := HT.out; rwa [List.take_length, hl, List.take_length] at this)
        have HF := Lib.hid hf
        clear hf
        go_wp2
        go_ret
        exact ⟨by rw [HF.out]; rfl, HW.out⟩
theorem flatE_snoc {l : List EntT} {k : Nat} {x : EntT} (hx : l[k]? = some x) : flatE (l.take k) ++ entCells x = flatE (l.take (k + 1)) := by
  rw [List.take_add_one, hx, flatE_app]; simp [flatE]
theorem entC_one (x : EntT) : ∀ u ∈ entCells x, u.oneCell' = true := by
  intro u hu
  simp only [entCells, List.mem_cons, List.not_mem_nil, or_false] at hu
  rcases hu with rfl | rfl | rfl <;> rfl
theorem Tryd.info_rent : (Tryd.prog.info? 28).map (fun i => (i.zero, i.size, i.bytes)) = some (some (.agg #[.int .i64 0, .string ByteArray.empty, .string ByteArray.empty]), 3, 40) := by kernel_rfl
set_option maxRecDepth 100000 in
set_option maxHeartbeats 1600000 in
theorem Old_calls (w : World) (A : Option Addr) (c : Nat) (l : List EntT) (hr : Rd w A (flatE l)) (hl : l.length ≤ 1000000) :
    Calls Tryd.prog 17 #[.slice A l.length c] w fun e w' => ∃ A1 c1, e = .returned (.slice A1 l.length c1) ∧ Row w' w.heap.size 28 3 (.slice A1 l.length c1) l.length (flatE l) ∧ Below w.heap.size w w' := by
  have HA := Lib.hid hr
  clear hr
  go_enter Tryd.func17, Tryd.ntmps17
  go_wp2
  go_loopw [3, 8] (fun u3 u8 wr => ∃ (k : Nat) (A1 : Option Addr) (c1 : Nat), u8 = n64 k ∧ k ≤ l.length ∧ u3 = .slice A1 k c1 ∧ Hid (Row wr w.heap.size 28 3 (.slice A1 k c1) k (flatE (l.take k))) ∧ Hid (Below w.heap.size w wr)) (fun _ u8 _ => (l.length - intOf u8).toNat)
  case atStart => exact ⟨0, none, 0, rfl, Nat.zero_le _, rfl, Lib.hid (by simpa [flatE] using Row.nil _ _ _ _), Lib.hid (Below.refl _ _)⟩
  case round =>
    obtain ⟨k, A1, c1, rfl, hk, rfl, HR, HW⟩ := hrel
    by_cases hlt : k < l.length
    · obtain ⟨x, hx⟩ : ∃ x, l[k]? = some x := ⟨_, List.getElem?_eq_getElem hlt⟩
      obtain ⟨g, off, rfl, v0, v1, v2⟩ := RdE.at (HA.out.later HW.out) hx
      have hnews := rdNew (wr.alloc (.cells #[.int .i64 x.t, str x.d, str x.c] 35)) #[.int .i64 x.t, str x.d, str x.c] 28
      rw [World.size_alloc] at hnews
      have HN := Lib.hid hnews
      have HX := Lib.hid (flatE_snoc hx)
      have HE1 := Lib.hid (entC_one x)
      have b1 : (k : Int) < (l.length : Int) := by omega
      have hB : w.heap.size ≤ wr.heap.size := HW.out.size
      clear hx hnews
      go_wp2_with (at_builtin; refine wpList_append_row _ rfl _ _ 22 rfl w.heap.size 28 3 40 _ Tryd.underlying22 Tryd.info_rent rfl (by decide) (.slice A1 k c1) k (flatE (l.take k)) rfl ((HR.out.alloc _).alloc _) (some ⟨wr.heap.size + 1, 0, none⟩) 1 1 (entCells x) rfl rfl HN.out HE1.out (by omega) (by simp only [maxLen]; omega) (by simp; omega) ?_; intro A2 c2 w2 hrow2 hg2 hb2; rw [HX.out] at hrow2; have B2 : Below w.heap.size w w2 := Below.grown ((HW.out.alloc hB _).alloc (by simp; omega) _) hg2 (by simp; omega) (fun j e => (HR.out.lt j e).1))
      have HROW2 := Lib.hid hrow2
      have HB2 := Lib.hid B2
      clear hrow2 hg2 hb2 B2
      go_roundw
      case rel => exact ⟨k + 1, A2, c2, by go_num, by omega, rfl, HROW2, HB2⟩
      case measure => simp [intOf]; omega
    · obtain rfl : k = l.length := by omega
      go_wp2
      go_ret
      have hrow := HR.out
      rw [List.take_length] at hrow
      exact ⟨_, _, rfl, hrow, HW.out⟩
end Go.Proofs.YtpemjhghiccngaaDoor
