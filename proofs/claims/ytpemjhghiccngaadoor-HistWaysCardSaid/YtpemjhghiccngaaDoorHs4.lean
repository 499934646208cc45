import Derived.Test.YtpemjhghiccngaaDoorHs1
import Derived.Deep.RegionLaw
namespace Go.Proofs.YtpemjhghiccngaaDoor
set_option linter.unusedVariables false
set_option linter.unusedSimpArgs false
open Go.RowKit
/-! slices.Delete of one entry. -/
theorem Tryd.info_ent : (Tryd.prog.info? 35).map (fun i => (i.zero, i.size, i.bytes)) = some (some (.agg #[.int .i64 0, .string ByteArray.empty, .string ByteArray.empty]), 3, 40) := by kernel_rfl
set_option maxRecDepth 100000 in
set_option maxHeartbeats 3200000 in
theorem delE_row (w : World) (g off n c i : Nat) (cur : Array Value) (l : List EntT) (hl : l.length = n) (hg : w.heap[g]? = some (.cells cur 35 (0, 0))) (hnc : n ≤ c) (hcm : c ≤ maxLen) (hcs : off + c * 3 ≤ cur.size) (htk : (cur.toList.drop off).take (n * 3) = flatE l)
    (hi : i < n) (j : Nat) (hj : j = i + 1) :
    Calls Tryd.prog 41 #[.slice (some ⟨g, off, none⟩) n c, .int .i64 i, .int .i64 j] w fun e w' => e = .returned (.slice (some ⟨g, off, none⟩) (n - 1) c) ∧
      Row w' 0 35 3 (.slice (some ⟨g, off, none⟩) (n - 1) c) (n - 1) (flatE (l.eraseIdx i)) ∧ w.grownBy w' (some g) := by
  simp only [maxLen] at hcm
  obtain ⟨i0, hi0, hz0, hz1, hz2⟩ := info_parts Tryd.info_ent
  have hfl := flatE_len l
  have hcells : ∀ k v, (flatE l)[k]? = some v → w.cell? ⟨g, off + k, none⟩ = some v := fun k v hk => by
    rw [cell_of_row w g _ cur _ (0, 0) hg]
    rw [← htk, List.getElem?_take] at hk
    split at hk
    · rw [List.getElem?_drop] at hk; simpa using hk
    · cases hk
  obtain ⟨news, hnews⟩ : ∃ news, news = (flatE l).drop (j * 3) := ⟨_, rfl⟩
  have hlen : news.length = (n - j) * 3 := by rw [hnews, List.length_drop, hfl, hl]; omega
  obtain ⟨A, hA, hsrc⟩ : ∃ A : Addr, fromA (some (⟨g, off, none⟩ : Addr)) c j 3 = some A ∧ Hid (∀ t u, news[t]? = some u → w.drew.cell? (A.add t) = some u) := by
    by_cases h : c = j
    · refine ⟨⟨g, off, none⟩, by simp [fromA, h], Lib.hid fun t u hu => ?_⟩
      have h0 : news.length = 0 := by rw [hlen]; omega
      rw [List.length_eq_zero_iff.1 h0] at hu
      simp at hu
    · refine ⟨⟨g, off + j * 3, none⟩, by simp [fromA, h, Addr.add]; omega, Lib.hid fun t u hu => ?_⟩
      rw [hnews, List.getElem?_drop] at hu
      rw [Addr.add_lit, Nat.add_assoc]
      exact hcells _ u hu
  have s1 : Hid (news.length = (n - j) * 3) := Lib.hid hlen
  have s2 : Hid (∀ u ∈ news, u.oneCell' = true) := Lib.hid fun u hu => flatE_one l u (by rw [hnews] at hu; exact List.mem_of_mem_drop hu)
  have hfz : ∀ j, w.frozen? ⟨g, j, none⟩ = false := fun j => frozen_of_row w g j _ _ hg
  have s3 : Hid (∀ t, t < news.length → (w.drew.cell? ⟨g, off + i * 3 + t, none⟩).isSome = true ∧ w.drew.frozen? ⟨g, off + i * 3 + t, none⟩ = false) := Lib.hid fun t ht => by
    refine ⟨?_, hfz _⟩
    show (w.cell? _).isSome = true
    rw [cell_of_row w g _ cur _ (0, 0) hg, Array.getElem?_eq_getElem (by omega)]; rfl
  obtain ⟨cur1, a1, b1, d1⟩ := scRow g 35 news (off + i * 3) w.drew cur hg (by omega)
  have G1 := scGrown w.drew g (off + i * 3) news
  obtain ⟨W1, hW1⟩ : ∃ W1, W1 = w.drew.setCells g (off + i * 3) news := ⟨_, rfl⟩
  rw [← hW1] at a1 G1
  obtain ⟨W2, cur2, hcl, a2, b2, d2, G2⟩ := run_clear_row (P := Tryd.prog) W1 39 35 0 (.agg #[.int .i64 0, .string ByteArray.empty, .string ByteArray.empty]) Tryd.underlying39 Tryd.zero_ent ent_one g (off + (n - 1) * 3) 1 (c - (n - 1)) cur1 _ a1 (by simp [Value.cells]; omega)
  have hfin : (cur2.toList.drop off).take ((n - 1) * 3) = flatE (l.eraseIdx i) := by
    have e1 : cur1.toList.take (off + (n - 1) * 3) = cur.toList.take (off + i * 3) ++ news := by
      rw [d1, ← List.append_assoc]
      exact List.take_left' (by rw [List.length_append, List.length_take, hlen, Array.length_toList]; omega)
    have e3 : (cur.toList.take (off + i * 3)).drop off = flatE (l.take i) := by
      rw [← flatE_take, ← htk, List.drop_take, Nat.add_sub_cancel_left, List.take_take, Nat.min_eq_left (by omega)]
    have h5 := congrArg (List.drop off) d2
    rw [e1, List.drop_take, Nat.add_sub_cancel_left, List.drop_append_of_le_length (by rw [List.length_take, Array.length_toList]; omega), e3] at h5
    rw [h5, hnews, flatE_drop, ← flatE_app, hj, List.eraseIdx_eq_take_drop_succ]
  have hrow : Row W2 0 35 3 (.slice (some ⟨g, off, none⟩) (n - 1) c) (n - 1) (flatE (l.eraseIdx i)) :=
    ⟨by rw [flatE_len, List.length_eraseIdx, if_pos (by omega), hl], .inr ⟨g, off, c, cur2, rfl, Nat.zero_le _, a2, by omega, by simp only [maxLen]; omega, by omega, hfin⟩⟩
  have hgr : w.grownBy W2 (some g) := ⟨G2.os.trans G1.os, G2.tape.trans G1.tape, G2.output.trans G1.output, Nat.le_trans G1.size G2.size, fun k hk hn => (G2.block k (Nat.lt_of_lt_of_le hk G1.size) hn).trans (G1.block k hk hn)⟩
  have hfrom := fun (W : World) => run_from (P := Tryd.prog) 39 35 3 Tryd.underlying39 Tryd.size_ent (some ⟨g, off, none⟩) n c j (by omega) hnc W
  rw [hA] at hfrom
  have HROW := Lib.hid hrow
  have HGR := Lib.hid hgr
  have hW := Lib.hid hW1
  have hic : i ≤ c := by omega
  have hjc : j ≤ c := by omega
  have hjn : j ≤ n := by omega
  have hij : i ≤ j := by omega
  have hz2 : ¬ ((i : Int) = (j : Int)) := by omega
  have e1 : i + (n - j) = n - 1 := by omega
  have e2 : n - (n - 1) = 1 := by omega
  have e3 : ¬ (c = n - 1) := by omega
  have e4 : ((n - 1 : Nat) : Int) ≤ (n : Int) := by omega
  have e5 : n - 1 ≤ c := by omega
  have hji : n - j + i = n - 1 := by omega
  have hroom : i + (n - j) ≤ c := by omega
  clear hj hrow hgr hfin d1 d2 b1 b2 a1 a2 G1 G2 hcells hfz htk hg hW1 hnews hlen hfl hA hl
  go_enter Tryd.func41, Tryd.ntmps41
  go_wp2_with fail
  go_region_law (refine step_append_room rfl (.tmp 22) (.tmp 25) 39 rfl 35 i0 3 Tryd.underlying39 hi0 hz1 g off i c (by simp [Act.eval, Act.put]) A (n - j) (c - j) news (by simp [Act.eval, Act.put]) s1.out hsrc.out s2.out hroom s3.out ?_; rw [← hW.out])
  go_wp2
  go_ret
  exact ⟨rfl, HROW.out, HGR.out⟩
theorem delE1_calls (w : World) (v : Value) (l : List EntT) (hr : Row w 0 35 3 v l.length (flatE l)) (i : Nat) (hi : i < l.length) :
    Calls Tryd.prog 41 #[v, .int .i64 i, .int .i64 ((i : Int) + 1)] w fun e w' => ∃ A c, e = .returned (.slice A (l.length - 1) c) ∧
      Row w' 0 35 3 (.slice A (l.length - 1) c) (l.length - 1) (flatE (l.eraseIdx i)) ∧ w.grownBy w' v.ownBlock ∧ (Value.slice A (l.length - 1) c).ownBlock = v.ownBlock := by
  rcases hr.2 with ⟨rfl, h0⟩ | ⟨g, off, cap, cur, rfl, hb, hg, hnc, hcm, hcs, ht⟩
  · omega
  · have := delE_row w g off l.length cap i cur l rfl hg hnc hcm hcs ht hi (i + 1) rfl
    rw [show ((i + 1 : Nat) : Int) = (i : Int) + 1 by omega] at this
    refine this.mono ?_
    rintro e w' ⟨rfl, h1, h2⟩
    exact ⟨_, _, rfl, h1, h2, rfl⟩
end Go.Proofs.YtpemjhghiccngaaDoor
namespace Go.Proofs.YtpemjhghiccngaaDoor
set_option linter.unusedVariables false
set_option linter.unusedSimpArgs false
open Go.RowKit
/-! Add's closures. -/
theorem own1 : Own 39 := fun _ _ => by kernel_rfl
theorem own2 : Own 43 := fun _ _ => by kernel_rfl
theorem own3 : Own 45 := fun _ _ => by kernel_rfl
abbrev entO (e : EntT) (T : TypeId) : Obj := .cells #[.int .i64 e.t, str e.d, str e.c] T (0, 0)
theorem tells1 (cb : Nat) (e : EntT) : Tells entV 39 cb (entO e 35) (fun x => decide (x.c = e.c)) := by
  intro W x hW
  obtain ⟨v0, v1, v2⟩ := ent_cells hW
  obtain ⟨sx, hsx⟩ : ∃ s : ByteArray, s = ⟨x.c.toArray⟩ := ⟨_, rfl⟩
  obtain ⟨se, hse⟩ : ∃ s : ByteArray, s = ⟨e.c.toArray⟩ := ⟨_, rfl⟩
  have hbe := str_beq hsx hse
  have hlt := lt_of_heap hW
  rw [lit_of hse] at v2
  unfold entV
  rw [lit_of hsx]
  have HBE := Lib.hid hbe
  clear hsx hse hbe hW
  go_enter Tryd.func39, Tryd.ntmps39
  go_wp2
  go_ret
  exact ⟨by rw [← HBE.out]; rfl, (Below.refl _ _).alloc (Nat.le_refl _) _⟩
theorem tells2 (cb : Nat) (e : EntT) : Tells str 43 cb (entO e 35) (fun x => decide (x = e.c)) := by
  intro W x hW
  obtain ⟨v0, v1, v2⟩ := ent_cells hW
  obtain ⟨sx, hsx⟩ : ∃ s : ByteArray, s = ⟨x.toArray⟩ := ⟨_, rfl⟩
  obtain ⟨se, hse⟩ : ∃ s : ByteArray, s = ⟨e.c.toArray⟩ := ⟨_, rfl⟩
  have hbe := str_beq hsx hse
  rw [lit_of hse] at v2
  rw [lit_of hsx]
  have HBE := Lib.hid hbe
  clear hsx hse hbe hW
  go_enter Tryd.func43, Tryd.ntmps43
  go_wp2
  go_ret
  exact ⟨by rw [← HBE.out]; rfl, Below.refl _ _⟩
theorem tells3 (cb : Nat) (s : Bs) : Tells entV 45 cb (.cells #[str s] 9 (0, 0)) (fun x => decide (x.c = s)) := by
  intro W x hW
  have v0 : W.cell? ⟨cb, 0, none⟩ = some (str s) := by rw [cell_of_row W cb _ _ _ (0, 0) hW]; rfl
  obtain ⟨sx, hsx⟩ : ∃ s : ByteArray, s = ⟨x.c.toArray⟩ := ⟨_, rfl⟩
  obtain ⟨se, hse⟩ : ∃ q : ByteArray, q = ⟨s.toArray⟩ := ⟨_, rfl⟩
  have hbe := str_beq hsx hse
  have hlt := lt_of_heap hW
  rw [lit_of hse] at v0
  unfold entV
  rw [lit_of hsx]
  have HBE := Lib.hid hbe
  clear hsx hse hbe hW
  go_enter Tryd.func45, Tryd.ntmps45
  go_wp2
  go_ret
  exact ⟨by rw [← HBE.out]; rfl, (Below.refl _ _).alloc (Nat.le_refl _) _⟩
end Go.Proofs.YtpemjhghiccngaaDoor
