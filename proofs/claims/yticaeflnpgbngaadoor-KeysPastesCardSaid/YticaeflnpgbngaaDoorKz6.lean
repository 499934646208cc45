import Derived.Test.YticaeflnpgbngaaDoorKz5
import Derived.Test.YticaeflnpgbngaaDoorKy6
namespace Go.Proofs.YticaeflnpgbngaaDoor
set_option linter.unusedVariables false
set_option linter.unusedSimpArgs false
open Go.RowKit Go.Maps
/-! KeysCuts. -/
theorem ints_of {H : Type} {enc : TypeId × Value → H} {w : World} : (xs : List Value) → (∀ x ∈ xs, FieldIn enc Tryd.prog w 3 x) → ∃ l : List Int, xs = l.map (fun n => Value.int .i64 n) ∧ ∀ n ∈ l, -9223372036854775808 ≤ n ∧ n ≤ 9223372036854775807
  | [], _ => ⟨[], rfl, by simp⟩
  | x :: xs, h => by
      obtain ⟨l, hl, hb⟩ := ints_of xs fun y hy => h y (List.mem_cons_of_mem _ hy)
      obtain ⟨n, rfl, hw⟩ := (h x (List.mem_cons_self ..)).int Tryd.underlying3
      refine ⟨n :: l, by rw [hl]; rfl, fun m hm => ?_⟩
      rcases List.mem_cons.1 hm with e | e
      · rw [e]; exact wf_i64 hw
      · exact hb m e
set_option maxRecDepth 100000 in
theorem in_ints {H : Type} {enc : TypeId × Value → H} {w : World} {r : Reach} {b0 : Nat} {v : Value} {d : DataW H} {p : List MemPlace} (hv : Value.okWide Tryd.prog w r b0 43 v) (h : DataW.Trod enc Tryd.prog w 0 (fun _ => true) true 43 v d p) (hz : ∀ n ∈ d.weights Tryd.prog 43, n ≤ reachBytes) :
    ∃ (A : Option Addr) (c : Nat) (l : List Int), v = .slice A l.length c ∧ l.length ≤ c ∧ c ≤ maxLen ∧ Rd w A (l.map fun n => Value.int .i64 n) ∧ ∀ n ∈ l, -9223372036854775808 ≤ n ∧ n ≤ 9223372036854775807 := by
  obtain ⟨A, n, c, xs, rfl, h1, h2, h3, h4, h5, h6⟩ := in_row1 (e := 3) (by_ := 8) Tryd.underlying43 (by kernel_rfl) (by kernel_rfl) hv h hz
  obtain ⟨l, rfl, hb⟩ := ints_of xs h6
  rw [List.length_map] at h4
  subst h4
  exact ⟨A, c, l, rfl, h1, h2, h5, hb⟩
theorem take_split (l : Bs) {f k : Nat} (h : f ≤ k) : l.take k = l.take f ++ (l.drop f).take (k - f) := by
  have := List.take_add (l := l) (i := f) (j := k - f)
  rwa [show f + (k - f) = k by omega] at this
theorem feed_cut (l : Bs) {f k : Nat} (h : f ≤ k) : feedD Dc.new (l.take k) = ((feedD Dc.new (l.take f)).1 ++ (feedD (feedD Dc.new (l.take f)).2 ((l.drop f).take (k - f))).1, (feedD (feedD Dc.new (l.take f)).2 ((l.drop f).take (k - f))).2) := by
  rw [take_split l h, feedD_app]
theorem fromA8_block {A : Option Addr} {c k : Nat} {a : Addr} (h : fromA8 A c k = some a) : ∃ a', A = some a' ∧ a'.block = a.block := by
  unfold fromA8 at h
  split at h
  · exact ⟨a, h, rfl⟩
  · cases A with
    | none => cases h
    | some x =>
      refine ⟨x, rfl, ?_⟩
      have : x.add k = a := by simpa using h
      rw [← this]
      unfold Addr.add
      split <;> rfl
theorem Di.grown {w W : World} {db : Nat} {d : Dc} {fp : List Nat} (h : Di w db d fp) {B : Nat} {v : Value} {n : Nat} {xs : List Value} (hr : Row w B 46 2 v n xs) (hg : w.grownBy W v.ownBlock) : Di W db d fp :=
  h.move fun b hb => hg.block b (h.lt b hb) fun e => h.off hr (by decide) (by decide) e.symm hb
theorem Ses2.grown {w W W' : World} {a b : Nat} {d e : Dc} (h : Ses2 w a d b e W) {B : Nat} {v : Value} {n : Nat} {xs : List Value} (hr : Row W B 46 2 v n xs) (hB : w.heap.size ≤ B) (hg : W.grownBy W' v.ownBlock) : Ses2 w a d b e W' := by
  obtain ⟨fp, fq, h1, h2, h3, h4, h5, h6⟩ := h
  exact ⟨fp, fq, h1.grown hr hg, h2.grown hr hg, h3, h4, h5, Below.grown h6 hg h6.size fun j e => Nat.le_trans hB (hr.lt j e).1⟩
theorem Ses.grown {w W W' : World} {a : Nat} {d : Dc} (h : Ses w a d W) {B : Nat} {v : Value} {n : Nat} {xs : List Value} (hr : Row W B 46 2 v n xs) (hB : w.heap.size ≤ B) (hg : W.grownBy W' v.ownBlock) : Ses w a d W' := by
  obtain ⟨fp, h1, h4, h6⟩ := h
  exact ⟨fp, h1.grown hr hg, h4, Below.grown h6 hg h6.size fun j e => Nat.le_trans hB (hr.lt j e).1⟩
abbrev decO : Obj := .cells #[.int .i64 0, .slice none 0 0, .slice none 0 0, .int .i64 0, .string ⟨#[]⟩, .int .i64 0] 29
set_option maxRecDepth 100000 in
set_option maxHeartbeats 6400000 in
theorem KeysCuts_walk (w : World) (hU : U8 w) (A : Option Addr) (c : Nat) (l : Bs) (hr : RdB w A l) (hc : l.length ≤ c) (Aa : Option Addr) (ca : Nat) (ns : List Int) (ha : Rd w Aa (ns.map fun n => Value.int .i64 n)) (hns : ∀ n ∈ ns, -9223372036854775808 ≤ n ∧ n ≤ 9223372036854775807) :
    Calls Tryd.prog 4 #[.slice A l.length c, .slice Aa ns.length ca] w fun e w' => e = .returned (.bool true) ∧ Below w.heap.size w w' := by
  have AL := Lib.hid (fun (W : World) (h : Below w.heap.size w W) => al04_calls W (hU.later h))
  have HR := Lib.hid hr
  have HA := Lib.hid ha
  have HNS := Lib.hid hns
  have HU := Lib.hid hU
  by_cases h15 : 1500 < l.length
  · have i15 : (1500 : Int) < (l.length : Int) := by omega
    clear h15 hr ha hns hU
    go_enter Tryd.func4, Tryd.ntmps4
    go_wp2_with (refine (AL.out w (Below.refl _ _)).mono ?_; rintro e w1 ⟨rfl, b1⟩)
    go_ret
    exact ⟨rfl, b1⟩
  have i15 : ¬ (1500 : Int) < (l.length : Int) := by omega
  by_cases h50 : 50 < ns.length
  · have i50 : (50 : Int) < (ns.length : Int) := by omega
    clear h15 h50 hr ha hns hU
    go_enter Tryd.func4, Tryd.ntmps4
    go_wp2_with (refine (AL.out w (Below.refl _ _)).mono ?_; rintro e w1 ⟨rfl, b1⟩)
    go_ret
    exact ⟨rfl, b1⟩
  have i50 : ¬ (50 : Int) < (ns.length : Int) := by omega
  have S0 := Lib.hid (Ses2.new w)
  obtain ⟨W0, hW0⟩ : ∃ W0, W0 = (w.alloc decO).alloc decO := ⟨_, rfl⟩
  have hS0 : Hid (Ses2 w w.heap.size Dc.new (w.heap.size + 1) Dc.new W0) := Lib.hid (by rw [hW0]; exact S0.out)
  have hb0 := hS0.out.below
  have HW0 := Lib.hid hW0
  have hoff : ∀ x, A = some x → l ≠ [] → x.block < w.heap.size := fun x hx hne => Rd.lt hr hx (by simpa using hne)
  have F1 := Lib.hid (s2Feed_calls hS0.out (Below.refl W0.heap.size W0) hU RelD.new A c l (Rd.later hr hb0) (fun x hx hne => .inl (hoff x hx hne)) (by simp; omega))
  have HOFF := Lib.hid hoff
  obtain ⟨o1, ho1⟩ : ∃ o, o = feedD Dc.new l := ⟨_, rfl⟩
  rw [← ho1] at F1
  have HO1 := Lib.hid ho1
  have hfl := feedD_len l RelD.new
  rw [← ho1] at hfl
  have hlb : l.length ≤ 1500 := by omega
  clear S0 hW0 hb0 hr ha hns hU hoff ho1 h15
  go_enter Tryd.func4, Tryd.ntmps4
  go_wp2_with fail
  rw [← HW0.out]
  refine F1.out.mono ?_
  rintro e w1 ⟨v1, rfl, hv1, S1, _, _⟩
  obtain ⟨A7, c7, rfl, _⟩ := hv1.rd
  obtain ⟨K, hK⟩ : ∃ K, K = o1.1 := ⟨_, rfl⟩
  rw [← hK] at hv1 hfl
  rw [← hK]
  have HKK := Lib.hid hK
  have HV1 := Lib.hid hv1
  have HLT := Lib.hid (fun g hg => (hv1.lt g hg).2)
  have HS1 := Lib.hid S1
  have hsz1 := S1.below.size
  clear hv1 S1 F1 hK
  go_wp2_with fail
  go_loopw [8, 9, 26] (fun u8 u9 u26 wr => ∃ (i f n8 : Nat) (A8 : Option Addr) (c8 : Nat), u26 = n64 i ∧ i ≤ ns.length ∧ u9 = n64 f ∧ f ≤ l.length ∧ u8 = .slice A8 n8 c8 ∧ n8 ≤ 7500 ∧ Hid (n8 = (feedD Dc.new (l.take f)).1.length) ∧ Hid (Row wr w1.heap.size 46 2 (.slice A8 n8 c8) n8 (flatK (feedD Dc.new (l.take f)).1)) ∧ Hid (Ses2 w (w.heap.size + 1) (feedD Dc.new (l.take f)).2 w.heap.size o1.2 wr) ∧ Hid (RowK wr W0.heap.size (.slice A7 K.length c7) K) ∧ w1.heap.size ≤ wr.heap.size) (fun _ _ u26 _ => (ns.length - intOf u26).toNat)
  case atStart => exact ⟨0, 0, 0, none, 0, rfl, Nat.zero_le _, rfl, Nat.zero_le _, rfl, by omega, Lib.hid rfl, Lib.hid (Row.nil _ _ _ _), Lib.hid HS1.out.swap, HV1, Nat.le_refl _⟩
  case round =>
    obtain ⟨i, f, n8, A8, c8, rfl, hi, rfl, hf, rfl, hn8, HN8, H8, HS, HV, hw1⟩ := hrel
    by_cases hlt : i < ns.length
    · obtain ⟨x, hx⟩ : ∃ x, ns[i]? = some x := ⟨_, List.getElem?_eq_getElem hlt⟩
      have hHB := HS.out.below
      obtain ⟨ga, oa, rfl, ca1⟩ := (HA.out.later hHB) i (.int .i64 x) (by rw [List.getElem?_map, hx]; rfl)
      have b1 : (i : Int) < (ns.length : Int) := by omega
      have hxb := HNS.out x (List.mem_of_getElem? hx)
      by_cases hk : (f : Int) < x ∧ x ≤ (l.length : Int)
      · obtain ⟨k, rfl⟩ : ∃ k : Nat, x = (k : Int) := ⟨x.toNat, by omega⟩
        have k1 : f < k := by omega
        have k2 : k ≤ l.length := by omega
        have y1 : (f : Int) < (k : Int) := by omega
        have y2 : (k : Int) ≤ (l.length : Int) := by omega
        have hsl : ∀ W : World, (Instr.slice 25 (.slice A l.length c) (some (.int .i64 (f : Int))) (some (.int .i64 (k : Int))) none).run Tryd.prog W = .ok (.slice (fromA8 A c f) (k - f) (c - f)) W := fun W => run_sub8 (P := Tryd.prog) 25 5 Tryd.underlying25 Tryd.size_u8 A l.length c f k (by omega) k2 hc W
        have hrd := rd_sub8 (Rd.later HR.out hHB) f k c hc
        have hcut := feed_cut l (show f ≤ k by omega)
        obtain ⟨L, hL⟩ : ∃ L, L = (l.drop f).take (k - f) := ⟨_, rfl⟩
        have hLl : L.length = k - f := by rw [hL]; simp; omega
        rw [← hL] at hrd hcut
        obtain ⟨cc, rr, rrl⟩ := feed_relL (l.take f) RelD.new
        have hlne : l ≠ [] := by intro e; rw [e] at k2; simp at k2; omega
        have Q := Lib.hid (s2Feed_calls HS.out (Below.refl wr.heap.size wr) HU.out rr (fromA8 A c f) (c - f) L hrd (fun y hy _ => .inl (by
          obtain ⟨y', hy', hyb⟩ := fromA8_block hy
          have := HOFF.out y' hy' hlne
          omega)) (by simp at rrl; omega))
        rw [hLl] at Q
        have hfl2 := feedD_len (l.take k) RelD.new
        rw [List.length_take, hcut, List.length_append] at hfl2
        have hn8e := HN8.out
        obtain ⟨o, ho⟩ : ∃ o, o = feedD Dc.new (l.take f) := ⟨_, rfl⟩
        rw [← ho] at hcut Q HN8 H8 hfl2 hn8e
        obtain ⟨p, hp⟩ : ∃ p, p = feedD o.2 L := ⟨_, rfl⟩
        rw [← hp] at hcut Q hfl2
        have HCUT := Lib.hid hcut
        have hpl : n8 + p.1.length ≤ 7500 := by omega
        have hszr := hHB.size
        clear hx hrd hcut hL hLl rr rrl hlne hfl2 ho hp hk hHB hxb hn8e
        go_wp2_with (first
          | ((with_reducible refine Q.out.mono ?_); rintro e w2 ⟨v2, rfl, hv2, S2, k3, hs2⟩; obtain ⟨A3, c3, rfl, _, _, hrd3, _⟩ := hv2.rd; have H83 : Row w2 w1.heap.size 46 2 (.slice A8 n8 c8) n8 (flatK o.1) := (by
                have h1 := H8.out
                rw [HN8.out] at h1 ⊢
                exact k3 _ _ _ h1); have HV3 := k3 _ _ _ HV.out)
          | (at_builtin; refine wpList_append_row _ rfl _ _ 38 rfl w1.heap.size 46 2 24 _ Tryd.underlying38 Tryd.info_key rfl (by decide) (.slice A8 n8 c8) n8 _ rfl H83 A3 p.1.length c3 (flatK p.1) rfl (flatK_len p.1) hrd3 (keyCells_one p.1) (by omega) (by simp only [maxLen]; omega) (by omega) ?_; intro A4 c4 w4 hrow4 hg4 hb4))
        go_roundw
        case rel =>
          refine ⟨i + 1, k, n8 + p.1.length, A4, c4, by go_num, by omega, rfl, k2, rfl, hpl, Lib.hid (by rw [HCUT.out, List.length_append, HN8.out]), Lib.hid (by rw [HCUT.out, flatK_app]; exact hrow4), Lib.hid ?_, Lib.hid ?_, by have := hg4.size; omega⟩
          · rw [HCUT.out]; exact S2.grown H83 hsz1 hg4
          · exact HV3.at_ fun g hg => hg4.block g (HV3.lt g hg).2 fun e => by have h1 := HLT.out g hg; have h2 := (H83.lt g e.symm).1; omega
        case measure => simp [intOf]; omega
      · have hszr := hHB.size
        by_cases hk1 : (f : Int) < x
        · have y2 : ¬ x ≤ (l.length : Int) := fun e => hk ⟨hk1, e⟩
          clear hx hk hHB hxb
          go_wp2
          go_roundw
          case rel => exact ⟨i + 1, f, n8, A8, c8, by go_num, by omega, rfl, hf, rfl, hn8, HN8, H8, HS, HV, hw1⟩
          case measure => simp [intOf]; omega
        · clear hx hk hHB hxb
          go_wp2
          go_roundw
          case rel => exact ⟨i + 1, f, n8, A8, c8, by go_num, by omega, rfl, hf, rfl, hn8, HN8, H8, HS, HV, hw1⟩
          case measure => simp [intOf]; omega
    · have hHB := HS.out.below
      have hsl : ∀ W : World, (Instr.slice 25 (.slice A l.length c) (some (.int .i64 (f : Int))) none none).run Tryd.prog W = .ok (.slice (fromA8 A c f) (l.length - f) (c - f)) W := fun W => run_from8 (P := Tryd.prog) 25 5 Tryd.underlying25 Tryd.size_u8 A l.length c f hf hc W
      have hrd := rd_sub8 (Rd.later HR.out hHB) f l.length c hc
      have hcut := feed_cut l hf
      rw [List.take_length] at hcut
      obtain ⟨L, hL⟩ : ∃ L, L = (l.drop f).take (l.length - f) := ⟨_, rfl⟩
      have hLl : L.length = l.length - f := by rw [hL]; simp
      rw [← hL] at hrd hcut
      obtain ⟨cc, rr, rrl⟩ := feed_relL (l.take f) RelD.new
      have Q := Lib.hid (s2Feed_calls HS.out (Below.refl wr.heap.size wr) HU.out rr (fromA8 A c f) (c - f) L hrd (fun y hy hne => .inl (by
        obtain ⟨y', hy', hyb⟩ := fromA8_block hy
        have := HOFF.out y' hy' (by intro e; rw [e] at hL; simp at hL; exact hne hL)
        omega)) (by simp at rrl; omega))
      rw [hLl] at Q
      have hn8e := HN8.out
      rw [← HO1.out] at hcut
      obtain ⟨o, ho⟩ : ∃ o, o = feedD Dc.new (l.take f) := ⟨_, rfl⟩
      rw [← ho] at hcut Q HN8 H8 hn8e
      obtain ⟨p, hp⟩ : ∃ p, p = feedD o.2 L := ⟨_, rfl⟩
      rw [← hp] at hcut Q
      have hKp : K = o.1 ++ p.1 := by rw [HKK.out, hcut]
      have hp2 : p.2 = o1.2 := by rw [hcut]
      have HKP := Lib.hid hKp
      have hKl : K.length = n8 + p.1.length := by rw [hKp, List.length_append, hn8e]
      have HP2 := Lib.hid hp2
      have hszr := hHB.size
      have HKL := Lib.hid hKl
      have hne : ((K.length : Int) != (n8 : Int) + (p.1.length : Int)) = false := by rw [hKl]; simp
      have hpl : n8 + p.1.length ≤ 7500 := by omega
      clear hrd hcut hL hLl rr rrl ho hp hn8e hKp hp2 hKl hHB
      go_wp2_with (first
        | ((with_reducible refine Q.out.mono ?_); rintro e w2 ⟨v2, rfl, hv2, S2, k3, hs2⟩; rw [HP2.out] at S2; obtain ⟨A3, c3, rfl, _, _, hrd3, _⟩ := hv2.rd; have H83 : Row w2 w1.heap.size 46 2 (.slice A8 n8 c8) n8 (flatK o.1) := (by
              have h1 := H8.out
              rw [HN8.out] at h1 ⊢
              exact k3 _ _ _ h1); have HV3 := k3 _ _ _ HV.out)
        | (at_builtin; refine wpList_append_row _ rfl _ _ 38 rfl w1.heap.size 46 2 24 _ Tryd.underlying38 Tryd.info_key rfl (by decide) (.slice A8 n8 c8) n8 _ rfl H83 A3 p.1.length c3 (flatK p.1) rfl (flatK_len p.1) hrd3 (keyCells_one p.1) (by omega) (by simp only [maxLen]; omega) (by omega) ?_; intro A4 c4 w4 hrow4 hg4 hb4; have S4 := S2.grown H83 hsz1 hg4; have HV4 : RowK w4 W0.heap.size (.slice A7 K.length c7) K := HV3.at_ (fun g hg => hg4.block g (HV3.lt g hg).2 fun e => by have h1 := HLT.out g hg; have h2 := (H83.lt g e.symm).1; omega)))
      refine (s2Waits_calls S4.swap).mono ?_
      rintro e w5 ⟨rfl, rfl⟩
      go_wp2_with fail
      refine (s2Waits_calls S4).mono ?_
      rintro e w5 ⟨rfl, rfl⟩
      have hfk : flatK o.1 ++ flatK p.1 = flatK K := by rw [HKP.out, flatK_app]
      rw [hfk] at hrow4
      have HR4 := Lib.hid hrow4
      have HV4' := Lib.hid HV4
      have hN : ((n8 + p.1.length : Nat) : Int) = (K.length : Int) := by rw [HKL.out]
      have HB5 := Lib.hid S4.below
      clear hfk hrow4 HV4 hv2 hrd3 HV3 H83 S2 S4 k3 hg4 hb4 HV HS H8 HN8
      go_wp2_with fail
      go_loopw [66] (fun u66 wx => ∃ i : Nat, u66 = n64 i ∧ i ≤ K.length ∧ Hid (Below w4.heap.size w4 wx)) (fun u66 _ => (K.length - intOf u66).toNat)
      case atStart => exact ⟨0, rfl, Nat.zero_le _, Lib.hid (Below.refl _ _)⟩
      case round =>
        obtain ⟨j, rfl, hj, HBX⟩ := hrel
        by_cases hjl : j < K.length
        · obtain ⟨q, hq⟩ : ∃ q, K[j]? = some q := ⟨_, List.getElem?_eq_getElem hjl⟩
          obtain ⟨g7, o7, c7', e7, x1, x2⟩ := row_key (HV4'.out.below HBX.out (Nat.le_refl _)) hq
          cases e7
          obtain ⟨A9, c9, e9, _, _, hr9, _⟩ := (HR4.out.below HBX.out (Nat.le_refl _)).rd
          cases e9
          obtain ⟨f1, f2⟩ := flatK_get K j q hq
          obtain ⟨g8, o8, rfl, y1⟩ := hr9 _ _ f1
          obtain ⟨_, _, e9, y2⟩ := hr9 _ _ f2
          cases e9
          rw [← Nat.add_assoc] at y2
          obtain ⟨sq, hsq⟩ : ∃ s : ByteArray, s = ⟨q.t.toArray⟩ := ⟨_, rfl⟩
          rw [lit_of hsq] at x2 y2
          have hne9 := Tryd.neq_key sq (q.k : Int)
          have z1 : (j : Int) < (K.length : Int) := by omega
          have z2 : j < n8 + p.1.length := by rw [← HKL.out]; exact hjl
          have z3 : (j : Int) < ((n8 : Int) + (p.1.length : Int)) := by omega
          clear hq hr9 f1 f2 hsq
          go_wp2
          go_quiet (fail)
          rename_i nq
          go_wp2
          go_roundw
          case rel => exact ⟨j + 1, by go_num, by omega, Lib.hid (HBX.out.trans ⟨rfl, rfl, rfl, Nat.le_refl _, fun _ _ => rfl⟩)⟩
          case measure => simp [intOf]; omega
        · have z1 : ¬ (j : Int) < (K.length : Int) := by omega
          have hbx := HB5.out.trans (HBX.out.mono HB5.out.size)
          go_wp2_with (refine (AL.out _ hbx).mono ?_; rintro e w9 ⟨rfl, b9⟩)
          go_ret
          exact ⟨rfl, hbx.trans (b9.mono hbx.size)⟩
end Go.Proofs.YticaeflnpgbngaaDoor
