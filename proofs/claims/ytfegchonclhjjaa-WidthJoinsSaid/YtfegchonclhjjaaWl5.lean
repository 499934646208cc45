import Derived.Test.YtfegchonclhjjaaWp2
import Derived.Test.YtfegchonclhjjaaWl4
namespace Go.Proofs.Ytfegchonclhjjaa
open Go.RowKit
/-- '[]byte(s)', whatever the world is. -/
theorem cv_at {s : ByteArray} {c : Bs} (hs : s = ⟨c.toArray⟩) (hc : c.length ≤ 4294967296) (w : World) : ∃ cap W, (convert 9 38 (.string s)).run Try.prog w = .ok (.slice (some ⟨w.heap.size, 0, none⟩) c.length cap) W ∧ c.length ≤ cap ∧ RdB W (some ⟨w.heap.size, 0, none⟩) c ∧ Below w.heap.size w W := by
  obtain ⟨cap, W, a, b, _, d, e⟩ := conv_bytes (P := Try.prog) w _ _ _ c Try.underlying9 Try.underlying38 Try.underlying5 (by simp only [maxLen]; omega)
  exact ⟨cap, W, by rw [hs]; exact a, b, d, e⟩
theorem add_str {a b : ByteArray} {l m : Bs} (ha : a = ⟨l.toArray⟩) (hb : b = ⟨m.toArray⟩) (h : l.length + m.length ≤ 4294967296) (W : World) : (Op.stringOp .add a b).run Try.prog W = .ok (.string ⟨(l ++ m).toArray⟩) W := by
  subst ha; subst hb
  rw [run_string_add_sum (P := Try.prog) W _ _ (by rw [str_of, str_of]; omega), ByteArray.mk_append_mk]
set_option maxHeartbeats 1600000 in
set_option maxRecDepth 100000 in
theorem WidthSums_walk (sa sb : ByteArray) (w : World) :
    Calls Try.prog 9 #[.string sa, .string sb] w fun e w' => e = .returned (.bool true) ∧ Below w.heap.size w w' := by
  obtain ⟨a, hsa⟩ : ∃ l : Bs, sa = ⟨l.toArray⟩ := ⟨sa.data.toList, by cases sa; rfl⟩
  obtain ⟨b, hsb⟩ : ∃ l : Bs, sb = ⟨l.toArray⟩ := ⟨sb.data.toList, by cases sb; rfl⟩
  have hza : sa.size = a.length := by rw [hsa, str_of]
  have hzb : sb.size = b.length := by rw [hsb, str_of]
  have HSA := Lib.hid hsa
  have HSB := Lib.hid hsb
  clear hsa hsb
  by_cases hba : 500 < a.length
  · go_enter Try.func9, Try.ntmps9
    go_wp2_with fail
    refine (alive_calls _).mono ?_
    rintro e w1 ⟨rfl, hb⟩
    go_wp2
    go_ret
    exact ⟨rfl, hb⟩
  by_cases hbb : 500 < b.length
  · go_enter Try.func9, Try.ntmps9
    go_wp2_with fail
    refine (alive_calls _).mono ?_
    rintro e w1 ⟨rfl, hb⟩
    go_wp2
    go_ret
    exact ⟨rfl, hb⟩
  have ca := clean_len a
  have cb := clean_len b
  obtain ⟨x, hx⟩ : ∃ x, x = clean a := ⟨_, rfl⟩
  obtain ⟨y, hy⟩ : ∃ y, y = clean b := ⟨_, rfl⟩
  have hss := sums a y
  rw [← hx] at ca hss
  rw [← hy] at cb
  obtain ⟨bx, hbx⟩ : ∃ s : ByteArray, s = ⟨x.toArray⟩ := ⟨_, rfl⟩
  obtain ⟨by0, hby0⟩ : ∃ s : ByteArray, s = ⟨y.toArray⟩ := ⟨_, rfl⟩
  obtain ⟨by1, hby1⟩ : ∃ s : ByteArray, s = ⟨(46 :: y).toArray⟩ := ⟨_, rfl⟩
  obtain ⟨bz, hbz⟩ : ∃ s : ByteArray, s = ⟨(x ++ 46 :: y).toArray⟩ := ⟨_, rfl⟩
  have hcl := cuts_len x
  have hcm : ∀ c ∈ cuts x, c.length ≤ 4294967296 := fun c hc => by have := mem_cuts hc; omega
  have hcz := cuts_len (46 :: y)
  rw [List.length_cons] at hcz
  have hw1 := wsum_le (cuts x)
  have hw2 := wsum_le (cuts (46 :: y))
  obtain ⟨cs, hcs⟩ : ∃ cs, cs = cuts x := ⟨_, rfl⟩
  rw [← hcs] at hcl hcm hw1
  obtain ⟨m1, hm1⟩ : ∃ m, m = wsum (cuts x) := ⟨_, rfl⟩
  obtain ⟨m2, hm2⟩ : ∃ m, m = wsum (cuts (46 :: y)) := ⟨_, rfl⟩
  rw [← hm1, ← hm2] at hss
  rw [← hm2] at hw2
  have hmc : m1 = wsum cs := by rw [hm1, hcs]
  rw [← hmc] at hw1
  have hq1 : ∀ W, (Op.stringOp .add ⟨#[46]⟩ by0).run Try.prog W = .ok (.string by1) W := fun W => by rw [hby1]; exact add_str (l := [46]) rfl hby0 (by simp; omega) W
  have hq2 : ∀ W, (Op.stringOp .add bx by1).run Try.prog W = .ok (.string bz) W := fun W => by rw [hbz]; exact add_str hbx hby1 (by simp; omega) W
  have hsm : IntKind.i64.wrap (m1 + m2) = m1 + m2 := IntWalk.i64_in _ (by omega)
  have HX := Lib.hid hx
  have HY := Lib.hid hy
  have HBX := Lib.hid hbx
  have HB0 := Lib.hid hby0
  have HB1 := Lib.hid hby1
  have HBZ := Lib.hid hbz
  have HCS := Lib.hid hcs
  have HCM := Lib.hid hcm
  have HSS := Lib.hid hss
  have HM1 := Lib.hid hm1
  have HM2 := Lib.hid hm2
  have HMC := Lib.hid hmc
  clear hx hy hbx hby0 hby1 hbz hcs hcm hss hm1 hm2 hmc
  have la4 : a.length ≤ 4294967296 := by omega
  have lb4 : b.length ≤ 4294967296 := by omega
  have lx4 : x.length ≤ 4294967296 := by omega
  have ly4 : (46 :: y).length ≤ 4294967296 := by simp; omega
  have lz4 : (x ++ 46 :: y).length ≤ 4294967296 := by simp; omega
  obtain ⟨cap1, W1, hcv1, hcc1, hrd1, hb1⟩ := cv_at HSA.out la4 w
  go_enter Try.func9, Try.ntmps9
  go_wp2_with fail
  refine (rClean_calls _ cap1 a W1 hrd1 hcc1 la4).mono ?_
  rintro e w2 ⟨v2, rfl, hrow2, hb2⟩
  rw [← HX.out] at hrow2
  obtain ⟨A2, c2, rfl, _, _, hrd2, _⟩ := hrow2.rd
  have hs2 := row_str w2 A2 x c2 hrd2
  rw [← HBX.out] at hs2
  have B2 := hb1.trans (hb2.mono hb1.size)
  obtain ⟨cap3, W3, hcv3, hcc3, hrd3, hb3⟩ := cv_at HSB.out lb4 w2
  have B3 := B2.trans (hb3.mono B2.size)
  clear hrow2 hrd2 hcv1
  go_wp2_with fail
  clear hs2
  refine (rClean_calls _ cap3 b W3 hrd3 hcc3 lb4).mono ?_
  rintro e w4 ⟨v4, rfl, hrow4, hb4⟩
  rw [← HY.out] at hrow4
  obtain ⟨A4, c4, rfl, _, _, hrd4, _⟩ := hrow4.rd
  have hs4 := row_str w4 A4 y c4 hrd4
  rw [← HB0.out] at hs4
  have B4 := B3.trans (hb4.mono B3.size)
  clear hrow4 hrd4 hcv3
  go_wp2_with fail
  clear hs4
  refine (Cut_calls x lx4 bx HBX.out _).mono ?_
  rintro e w5 ⟨v5, rfl, hrow5, hb5⟩
  rw [← HCS.out] at hrow5
  obtain ⟨A5, c5, rfl, _, _, hrd5, hA5⟩ := hrow5.rd
  have B5 := B4.trans (hb5.mono B4.size)
  have HR5 := Lib.hid hrd5
  clear hrow5 hrd5
  go_wp2_with fail
  go_loopw [7, 31] (fun u7 u31 wr => ∃ k : Nat, u31 = .int .i64 k ∧ k ≤ cs.length ∧ u7 = .int .i64 (wsum (cs.take k)) ∧ Below w5.heap.size w5 wr) (fun _ u31 _ => cs.length - (intOf u31).toNat)
  case atStart => exact ⟨0, rfl, Nat.zero_le _, rfl, Below.refl _ _⟩
  case round =>
    obtain ⟨k, rfl, hk, rfl, hbr⟩ := hrel
    by_cases hgo : k < cs.length
    · obtain ⟨cc, hcc⟩ : ∃ cc, cs[k]? = some cc := ⟨_, List.getElem?_eq_getElem hgo⟩
      obtain ⟨g1, o1, rfl, hk1⟩ := (HR5.out.later hbr) k (str cc) (by rw [List.getElem?_map, hcc]; rfl)
      have hcl4 := HCM.out cc (List.mem_of_getElem? hcc)
      obtain ⟨a1, ha⟩ : ∃ a : ByteArray, a = ⟨cc.toArray⟩ := ⟨_, rfl⟩
      rw [lit_of ha] at hk1
      have hsum := wsum_le (cs.take k)
      rw [List.length_take] at hsum
      have hwc := wid_le cc
      have hnext : wsum (cs.take (k + 1)) = wsum (cs.take k) + wid cc := by rw [List.take_add_one, hcc, ← wsum_snoc]; rfl
      obtain ⟨m, hm⟩ : ∃ m, m = wsum (cs.take k) := ⟨_, rfl⟩
      obtain ⟨d, hd⟩ : ∃ d, d = wid cc := ⟨_, rfl⟩
      rw [← hd] at hwc
      rw [← hm] at hsum ⊢
      rw [← hm, ← hd] at hnext
      have HA := Lib.hid ha
      have HN := Lib.hid hnext
      have HD := Lib.hid hd
      have i1 : (k : Int) < (cs.length : Int) := by omega
      clear hcc ha hnext hm hd
      go_wp2_with fail
      refine (rWide_calls cc hcl4 a1 HA.out _).mono ?_
      rintro e w9 ⟨rfl, hb9⟩
      rw [← HD.out]
      go_wp2
      go_roundw
      case rel => exact ⟨k + 1, by go_num, by omega, by rw [HN.out], hbr.trans (hb9.mono hbr.size)⟩
      case measure => simp [intOf]; omega
    · have hke : k = cs.length := by omega
      subst hke
      rw [List.take_length, ← HMC.out]
      have hB := B5.trans (hbr.mono B5.size)
      go_wp2_with fail
      refine (alive_calls _).mono ?_
      rintro e w6 ⟨rfl, hb6⟩
      have B6 := hB.trans (hb6.mono hB.size)
      go_wp2_with fail
      refine (Sum_calls x lx4 bx HBX.out _).mono ?_
      rintro e w7 ⟨rfl, hb7⟩
      have B7 := B6.trans (hb7.mono B6.size)
      rw [← HM1.out]
      go_wp2_with fail
      refine (Sum_calls _ lz4 bz HBZ.out _).mono ?_
      rintro e w8 ⟨rfl, hb8⟩
      have B8 := B7.trans (hb8.mono B7.size)
      rw [HSS.out]
      go_wp2_with fail
      refine (Sum_calls x lx4 bx HBX.out _).mono ?_
      rintro e w9 ⟨rfl, hb9⟩
      have B9 := B8.trans (hb9.mono B8.size)
      rw [← HM1.out]
      go_wp2_with fail
      refine (Sum_calls _ ly4 by1 HB1.out _).mono ?_
      rintro e w10 ⟨rfl, hb10⟩
      have B10 := B9.trans (hb10.mono B9.size)
      rw [← HM2.out]
      go_wp2
      go_ret
      exact ⟨rfl, B10⟩
end Go.Proofs.Ytfegchonclhjjaa
