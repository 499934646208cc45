import Derived.Test.YtkpfendodmfeoaaTx4
namespace Go.Proofs.Ytkpfendodmfeoaa
set_option linter.unusedVariables false
set_option linter.unusedSimpArgs false
open Go.RowKit
theorem lcp_comm (a b : Bs) : lcp a b = lcp b a := by unfold lcp; rw [com_take, com_comm]
/-- What has been gone through. -/
def Gone (l : Ents V) (i k : Nat) (p : Bs) : Prop :=
  p = [] ∨ ∃ (a b : Nat) (q1 q2 : Bs × V), l[a]? = some q1 ∧ l[b]? = some q2 ∧ p = lcp q1.1 q2.1 ∧ ((a < i ∧ b ≤ a) ∨ (a = i ∧ b < k))
def NInv (l : Ents V) (i k : Nat) (m : List Bs) : Prop := m.Nodup ∧ ∀ p, p ∈ m ↔ Gone l i k p
theorem NInv.start (l : Ents V) : NInv l 0 0 [[]] := ⟨by simp, fun p => by
  constructor
  · intro h; exact .inl (List.mem_singleton.1 h)
  · rintro (e | ⟨a, b, q1, q2, _, _, _, ⟨h, _⟩ | ⟨_, h⟩⟩)
    · rw [e]; exact List.mem_singleton.2 rfl
    · omega
    · omega⟩
theorem NInv.up {l : Ents V} {i : Nat} {m : List Bs} (h : NInv l i (i + 1) m) : NInv l (i + 1) 0 m := ⟨h.1, fun p => (h.2 p).trans (by
  unfold Gone
  constructor
  · rintro (e | ⟨a, b, q1, q2, h1, h2, h3, h4⟩)
    · exact .inl e
    · exact .inr ⟨a, b, q1, q2, h1, h2, h3, .inl (by omega)⟩
  · rintro (e | ⟨a, b, q1, q2, h1, h2, h3, h4⟩)
    · exact .inl e
    · exact .inr ⟨a, b, q1, q2, h1, h2, h3, by omega⟩)⟩
theorem gone_step {l : Ents V} {i k : Nat} {q1 q2 : Bs × V} (h1 : l[i]? = some q1) (h2 : l[k]? = some q2) (p : Bs) : Gone l i (k + 1) p ↔ Gone l i k p ∨ p = lcp q1.1 q2.1 := by
  constructor
  · rintro (e | ⟨a, b, r1, r2, k1, k2, k3, k4⟩)
    · exact .inl (.inl e)
    · by_cases hb : a = i ∧ b = k
      · obtain ⟨rfl, rfl⟩ := hb
        rw [h1] at k1; rw [h2] at k2
        cases k1; cases k2
        exact .inr k3
      · exact .inl (.inr ⟨a, b, r1, r2, k1, k2, k3, by omega⟩)
  · rintro ((e | ⟨a, b, r1, r2, k1, k2, k3, k4⟩) | e)
    · exact .inl e
    · exact .inr ⟨a, b, r1, r2, k1, k2, k3, by omega⟩
    · exact .inr ⟨i, k, q1, q2, h1, h2, e, .inr ⟨rfl, by omega⟩⟩
theorem NInv.known {l : Ents V} {i k : Nat} {m : List Bs} (h : NInv l i k m) {q1 q2 : Bs × V} (h1 : l[i]? = some q1) (h2 : l[k]? = some q2) (hm : lcp q1.1 q2.1 ∈ m) : NInv l i (k + 1) m :=
  ⟨h.1, fun p => by rw [gone_step h1 h2, ← h.2 p]; exact ⟨.inl, fun e => e.elim id fun e => by rw [e]; exact hm⟩⟩
theorem NInv.more {l : Ents V} {i k : Nat} {m : List Bs} (h : NInv l i k m) {q1 q2 : Bs × V} (h1 : l[i]? = some q1) (h2 : l[k]? = some q2) (hm : lcp q1.1 q2.1 ∉ m) : NInv l i (k + 1) (m ++ [lcp q1.1 q2.1]) :=
  ⟨List.nodup_append.2 ⟨h.1, by simp, fun x hx y hy e => hm (by rw [← List.mem_singleton.1 hy, ← e]; exact hx)⟩, fun p => by rw [gone_step h1 h2, ← h.2 p, List.mem_append, List.mem_singleton]⟩
theorem NInv.fin {l : Ents V} {m : List Bs} (h : NInv l l.length 0 m) : NodesOf l m.length := ⟨m, rfl, h.1, fun p => (h.2 p).trans (by
  constructor
  · rintro (e | ⟨a, b, q1, q2, h1, h2, h3, h4⟩)
    · exact .inl e
    · exact .inr ⟨q1, List.mem_of_getElem? h1, q2, List.mem_of_getElem? h2, h3⟩
  · rintro (e | ⟨q1, h1, q2, h2, e⟩)
    · exact .inl e
    · obtain ⟨a, ha⟩ := List.mem_iff_getElem?.1 h1
      obtain ⟨b, hb⟩ := List.mem_iff_getElem?.1 h2
      have la := (List.getElem?_eq_some_iff.1 ha).1
      have lb := (List.getElem?_eq_some_iff.1 hb).1
      by_cases hab : b ≤ a
      · exact .inr ⟨a, b, q1, q2, ha, hb, e, .inl ⟨la, hab⟩⟩
      · exact .inr ⟨b, a, q2, q1, hb, ha, by rw [e, lcp_comm], .inl ⟨lb, by omega⟩⟩)⟩
set_option maxHeartbeats 6400000 in
set_option maxRecDepth 100000 in
/-- The document's Nodes. -/
theorem rNodes_calls (w : World) (B : Nat) (v : Value) (l : Ents V) (hr : PR w B v l) (hN : l.length ≤ 4000) (hK : KeysLe 4294967296 l) :
    Calls Try.prog 19 #[v] w fun e w' => ∃ n, NodesOf l n ∧ n ≤ 40000000 ∧ e = .returned (n64 n) ∧ Below w.heap.size w w' := by
  obtain ⟨A, c, rfl, _⟩ := hr.rd
  have hblk : ∀ g, (Value.slice A l.length c).ownBlock = some g → g < w.heap.size := fun g hg => (Row.lt hr g hg).2
  have HR := Lib.hid hr
  have HK := Lib.hid hK
  clear hr hK
  go_enter Try.func19, Try.ntmps19
  go_wp2
  go_loopw [3, 4] (fun u3 u4 wr => ∃ (i : Nat) (m : List Bs), u4 = n64 i ∧ i ≤ l.length ∧ Row wr w.heap.size 9 1 u3 m.length (m.map str) ∧ NInv l i 0 m ∧ m.length ≤ 1 + i * 5000 ∧ Below w.heap.size w wr) (fun _ u4 _ => (l.length - intOf u4).toNat)
  case atStart =>
    have hnew := Row.new w #[str []] w.heap.size 9 1 1 (Nat.le_refl _) (by simp [maxLen]) rfl
    exact ⟨0, [[]], rfl, Nat.zero_le _, hnew, NInv.start l, by simp, (Below.refl _ w).alloc (Nat.le_refl _) _⟩
  case round =>
    obtain ⟨i, m, rfl, hi, hm, hI, hml, hb⟩ := hrel
    by_cases hlt : i < l.length
    · have b1 : (i : Int) < (l.length : Int) := by omega
      have HM := Lib.hid hm
      have HI := Lib.hid hI
      have HB := Lib.hid hb
      clear hm hI hb
      go_wp2
      go_loopw [3, 5] (fun u3 u5 wr => ∃ (k : Nat) (m : List Bs), u5 = n64 k ∧ k ≤ i + 1 ∧ Row wr w.heap.size 9 1 u3 m.length (m.map str) ∧ NInv l i k m ∧ m.length ≤ 1 + i * 5000 + k ∧ Below w.heap.size w wr) (fun _ u5 _ => (i + 1 - intOf u5).toNat)
      case atStart => exact ⟨0, m, rfl, Nat.zero_le _, HM.out, HI.out, by omega, HB.out⟩
      case round =>
        obtain ⟨k, m2, rfl, hk, hm2, hI2, hml2, hb2⟩ := hrel
        by_cases hkl : k < i + 1
        · have b2 : (k : Int) ≤ (i : Int) := by omega
          obtain ⟨q1, hq1⟩ : ∃ q, l[i]? = some q := ⟨_, List.getElem?_eq_getElem hlt⟩
          obtain ⟨q2, hq2⟩ : ∃ q, l[k]? = some q := ⟨_, List.getElem?_eq_getElem (show k < l.length by omega)⟩
          have hRw : PR wr B (.slice A l.length c) l := Row.at_ HR.out fun g hg => hb2.block g (hblk g hg)
          obtain ⟨g, off, rfl, c1, _⟩ := hRw.at hq1
          obtain ⟨g2, off2, e2, c3, _⟩ := hRw.at hq2
          cases e2
          obtain ⟨s1, hs1⟩ : ∃ sq : ByteArray, sq = ⟨q1.1.toArray⟩ := ⟨_, rfl⟩
          obtain ⟨s2, hs2⟩ : ∃ sq : ByteArray, sq = ⟨q2.1.toArray⟩ := ⟨_, rfl⟩
          have hz1 : s1.size = q1.1.length := by rw [hs1, str_of]
          have hz2 : s2.size = q2.1.length := by rw [hs2, str_of]
          rw [lit_of hs1] at c1
          rw [lit_of hs2] at c3
          have hl1 : q1.1.length ≤ 4294967296 := HK.out q1 (List.mem_of_getElem? hq1)
          have hl2 : q2.1.length ≤ 4294967296 := HK.out q2 (List.mem_of_getElem? hq2)
          have b3 : (k : Int) < (l.length : Int) := by omega
          have hcl := com_le q1.1 q2.1
          obtain ⟨cm, hcm⟩ : ∃ cm, cm = com q1.1 q2.1 := ⟨_, rfl⟩
          rw [← hcm] at hcl
          have HCM := Lib.hid hcm
          have HS1 := Lib.hid hs1
          have HS2 := Lib.hid hs2
          have HQ1 := Lib.hid hq1
          have HQ2 := Lib.hid hq2
          obtain ⟨A3, cp3, rfl, _⟩ := id hm2.rd
          have HM2 := Lib.hid hm2
          have HI2 := Lib.hid hI2
          have HB2 := Lib.hid hb2
          have hbs := hb2.size
          have h41 : s1.size ≤ 4294967296 := by omega
          have h42 : s2.size ≤ 4294967296 := by omega
          have hc1 : cm ≤ s1.size := by omega
          have hc2 : cm ≤ s2.size := by omega
          have HZ1 := Lib.hid hz1
          have HZ2 := Lib.hid hz2
          have hx := extract_eq q1.1 0 cm
          rw [← hs1, List.drop_zero] at hx
          have hlc : lcp q1.1 q2.1 = q1.1.take cm := by rw [hcm]; rfl
          rw [← hlc] at hx
          have HX := Lib.hid hx
          clear hm2 hI2 hb2 hs1 hs2 hq1 hq2 hcm hRw hz1 hz2 hcl hx hlc hl1 hl2
          go_wp2
          go_loopw [6] (fun u6 wy => ∃ n nd : Nat, u6 = n64 n ∧ wy = wr.drewN nd ∧ n ≤ cm) (fun u6 _ => cm - (intOf u6).toNat)
          case atStart => exact ⟨0, 0, rfl, rfl, Nat.zero_le _⟩
          case round =>
            obtain ⟨n, nd, rfl, rfl, hn⟩ := hrel
            by_cases hnm : n < cm
            · have h1 : n < s1.size := by omega
              have h2 : n < s2.size := by omega
              obtain ⟨x, x1, x2⟩ := com_at q1.1 q2.1 n (by rw [← HCM.out]; exact hnm)
              have y1 := byte_at HS1.out h1 x1
              have y2 := byte_at HS2.out h2 x2
              have i1 : (n : Int) < (s1.size : Int) := by omega
              have i2 : (n : Int) < (s2.size : Int) := by omega
              clear x1 x2
              go_wp2
              go_quiet (fail)
              go_wp2
              go_roundw
              case rel => exact ⟨n + 1, _, by go_num, rfl, by omega⟩
              case measure => simp [intOf]; omega
            · have hnm' : n = cm := by omega
              subst hnm'
              rcases Nat.lt_or_ge n s1.size with hA | hA
              case' inl =>
                by_cases hB : n < s2.size
                case' pos =>
                  have hne := com_ne q1.1 q2.1 (by rw [← HCM.out, ← HZ1.out]; exact hA) (by rw [← HCM.out, ← HZ2.out]; exact hB)
                  rw [← HCM.out] at hne
                  obtain ⟨x, hx⟩ : ∃ x, q1.1[n]? = some x := ⟨_, List.getElem?_eq_getElem (show n < q1.1.length by rw [← HZ1.out]; exact hA)⟩
                  obtain ⟨y, hy⟩ : ∃ y, q2.1[n]? = some y := ⟨_, List.getElem?_eq_getElem (show n < q2.1.length by rw [← HZ2.out]; exact hB)⟩
                  have y1 := byte_at HS1.out hA hx
                  have y2 := byte_at HS2.out hB hy
                  have hxy : ((x.toNat : Int) == (y.toNat : Int)) = false := by
                    have : x.toNat ≠ y.toNat := fun e => hne (by rw [hx, hy, UInt8.toNat_inj.1 e])
                    simp; omega
                  have i1 : (n : Int) < (s1.size : Int) := by omega
                  have i2 : (n : Int) < (s2.size : Int) := by omega
                  have i3 : (n : Int) ≤ (s1.size : Int) := by omega
                  clear hx hy hne
                  go_wp2
                  go_quiet (fail)
                  go_wp2
                case' neg =>
                  have i0 : decide (n < s2.size) = false := decide_eq_false hB
                  have i1 : (n : Int) < (s1.size : Int) := by omega
                  have i2 : ¬ (n : Int) < (s2.size : Int) := by omega
                  have i3 : (n : Int) ≤ (s1.size : Int) := by omega
                  go_wp2
                  go_quiet (fail)
                  go_wp2
              case' inr =>
                have i0 : decide (n < s1.size) = false := decide_eq_false (by omega)
                have i1 : ¬ (n : Int) < (s1.size : Int) := by omega
                have i3 : (n : Int) ≤ (s1.size : Int) := by omega
                go_wp2
                go_quiet (fail)
                go_wp2
              all_goals
                obtain ⟨sc, hsc⟩ : ∃ sc, sc = s1.extract 0 n := ⟨_, rfl⟩
                have hscl : sc = ⟨(lcp q1.1 q2.1).toArray⟩ := by rw [hsc, HX.out]
                rw [← hsc]
                obtain ⟨lc, hlc⟩ : ∃ lc, lc = lcp q1.1 q2.1 := ⟨_, rfl⟩
                rw [← hlc] at hscl
                have HLC := Lib.hid hlc
                have HSC := Lib.hid hscl
                clear hsc hscl hlc
                go_loopw [8, 9] (fun u8 u9 wz => ∃ j nd' : Nat, u9 = n64 j ∧ j ≤ m2.length ∧ u8 = .bool (decide (lc ∈ m2.take j)) ∧ wz = wr.drewN nd') (fun _ u9 _ => (m2.length - intOf u9).toNat)
                case atStart => exact ⟨0, _, rfl, Nat.zero_le _, by simp, rfl⟩
                case round =>
                  obtain ⟨j, nd2, rfl, hj, rfl, rfl⟩ := hrel
                  by_cases hjl : j < m2.length
                  · obtain ⟨z, hz⟩ : ∃ z, m2[j]? = some z := ⟨_, List.getElem?_eq_getElem hjl⟩
                    obtain ⟨A4, c4, e4, _, _, hrd4, _⟩ := HM2.out.rd
                    cases e4
                    obtain ⟨g4, off4, rfl, c5⟩ := hrd4 j (str z) (by rw [List.getElem?_map, hz]; rfl)
                    obtain ⟨sz, hsz⟩ : ∃ sz : ByteArray, sz = ⟨z.toArray⟩ := ⟨_, rfl⟩
                    rw [lit_of hsz] at c5
                    have hbe := str_beq hsz HSC.out
                    have htk : m2.take (j + 1) = m2.take j ++ [z] := by rw [List.take_add_one, hz]; rfl
                    have HTK := Lib.hid htk
                    have b5 : (j : Int) < (m2.length : Int) := by omega
                    clear hrd4 hz hsz htk
                    by_cases hzl : z = lc
                    · rw [decide_eq_true hzl] at hbe
                      go_wp2
                      go_roundw
                      case rel => exact ⟨j + 1, _, by go_num, by omega, by rw [HTK.out, decide_eq_true (by rw [hzl]; simp)], rfl⟩
                      case measure => simp [intOf]; omega
                    · rw [decide_eq_false hzl] at hbe
                      go_wp2
                      go_roundw
                      case rel => exact ⟨j + 1, _, by go_num, by omega, by congr 1; rw [HTK.out]; simp [Ne.symm hzl], rfl⟩
                      case measure => simp [intOf]; omega
                  · have b5 : ¬ (j : Int) < (m2.length : Int) := by omega
                    have hjm : j = m2.length := by omega
                    subst hjm
                    rw [List.take_length]
                    by_cases hmem : lc ∈ m2
                    · rw [decide_eq_true hmem]
                      have hI3 := HI2.out.known HQ1.out HQ2.out (by rw [← HLC.out]; exact hmem)
                      have HI3 := Lib.hid hI3
                      clear hI3 hmem
                      go_wp2
                      go_roundw
                      case rel => exact ⟨k + 1, m2, by go_num, by omega, HM2.out, HI3.out, by omega, ⟨HB2.out.os, HB2.out.tape, HB2.out.output, HB2.out.size, HB2.out.block⟩⟩
                      case measure => simp [intOf]; omega
                    · rw [decide_eq_false hmem]
                      have hI3 := HI2.out.more HQ1.out HQ2.out (by rw [← HLC.out]; exact hmem)
                      rw [← HLC.out] at hI3
                      have HI3 := Lib.hid hI3
                      clear hI3 hmem
                      go_wp2_with (at_builtin; refine wpList_append_row _ rfl _ _ 22 rfl w.heap.size 9 1 16 _ Try.underlying22 Try.info_str rfl (by decide) _ _ _ rfl (Row.alloc (w := wr.drewN nd2) HM2.out _) (some ⟨wr.heap.size, 0, none⟩) 1 1 [.string sc] rfl rfl (by have := Rd.newRow (wr.drewN nd2) #[.string sc] 9; exact this) (by simp [Value.oneCell']) (by omega) (by simp only [maxLen]; omega) (by simp; omega) ?_; intro A' c' w' hrow hg hob)
                      have hrow2 : Row w' w.heap.size 9 1 (.slice A' (m2.length + 1) c') (m2 ++ [lc]).length ((m2 ++ [lc]).map str) := by
                        rw [List.map_append, List.length_append, List.map_singleton, lit_of HSC.out]
                        exact hrow
                      have hB3 : Below w.heap.size w w' := by
                        have h0 : Below w.heap.size w (wr.drewN nd2) := ⟨HB2.out.os, HB2.out.tape, HB2.out.output, HB2.out.size, HB2.out.block⟩
                        exact (h0.alloc hbs _).grown hg (by simp; omega) fun k e => (Row.lt HM2.out k e).1
                      go_roundw
                      case rel => exact ⟨k + 1, m2 ++ [lc], by go_num, by omega, hrow2, HI3.out, by simp; omega, hB3⟩
                      case measure => simp [intOf]; omega
        · have b2 : ¬ (k : Int) ≤ (i : Int) := by omega
          have hke : k = i + 1 := by omega
          subst hke
          have HM2 := Lib.hid hm2
          have HI2 := Lib.hid hI2
          have HB2 := Lib.hid hb2
          clear hm2 hI2 hb2
          go_wp2
          go_roundw
          case rel => exact ⟨i + 1, m2, by go_num, by omega, HM2.out, HI2.out.up, by omega, HB2.out⟩
          case measure => simp [intOf]; omega
    · have b1 : ¬ (i : Int) < (l.length : Int) := by omega
      have hil : i = l.length := by omega
      subst hil
      obtain ⟨A3, c3, rfl, _⟩ := id hm.rd
      have HFIN := Lib.hid hI.fin
      have HB := Lib.hid hb
      clear hm hI hb
      go_wp2
      go_ret
      exact ⟨_, HFIN.out, by omega, rfl, HB.out⟩
end Go.Proofs.Ytkpfendodmfeoaa
