import Derived.Test.YtkpfendodmfeoaaTw10
import Derived.Lib.SliceRun
namespace Go.Proofs.Ytkpfendodmfeoaa
set_option linter.unusedVariables false
set_option linter.unusedSimpArgs false
open Go.RowKit
/-- What stands in a row once one of it is gone. -/
theorem del_list {cur : List Value} {off n i : Nat} {xs : List Value} {z : Value} (hx : (cur.drop off).take n = xs) (hl : xs.length = n) (hi : i < n) (hlen : off + n ≤ cur.length) (c1 c2 : List Value)
    (h1 : c1 = cur.take (off + i) ++ (xs.drop (i + 1) ++ cur.drop (off + i + (xs.drop (i + 1)).length)))
    (h2 : c2 = c1.take (off + (n - 1)) ++ ([z] ++ c1.drop (off + (n - 1) + 1))) : (c2.drop off).take (n - 1) = xs.take i ++ xs.drop (i + 1) := by
  have e1 : c1.take (off + (n - 1)) = cur.take (off + i) ++ xs.drop (i + 1) := by
    rw [h1, ← List.append_assoc]
    exact List.take_left' (by rw [List.length_append, List.length_take, List.length_drop]; omega)
  have e3 : (cur.take (off + i)).drop off = xs.take i := by
    rw [← hx, List.drop_take, Nat.add_sub_cancel_left, List.take_take, Nat.min_eq_left (by omega)]
  rw [h2, e1, List.append_assoc, List.drop_append_of_le_length (by rw [List.length_take]; omega), e3, ← List.append_assoc]
  exact List.take_left' (by rw [List.length_append, List.length_take, List.length_drop]; omega)
set_option maxHeartbeats 1600000 in
theorem del_row (w : World) (g off n c i : Nat) (cur : Array Value) (xs : List Value) (hl : xs.length = n) (hg : w.heap[g]? = some (.cells cur 54 (0, 0))) (hnc : n ≤ c) (hcm : c ≤ maxLen) (hcs : off + c * 1 ≤ cur.size) (htk : (cur.toList.drop off).take (n * 1) = xs)
    (hi : i < n) (h1x : ∀ x ∈ xs, x.oneCell' = true) (j : Nat) (hj : j = i + 1) :
    Calls Try.prog 48 #[.slice (some ⟨g, off, none⟩) n c, .int .i64 i, .int .i64 j] w fun e w' => e = .returned (.slice (some ⟨g, off, none⟩) (n - 1) c) ∧
      Row w' 0 54 1 (.slice (some ⟨g, off, none⟩) (n - 1) c) (n - 1) (xs.take i ++ xs.drop (i + 1)) ∧ w.grownBy w' (some g) := by
  rw [Nat.mul_one] at hcs htk
  simp only [maxLen] at hcm
  obtain ⟨i0, hi0, hz0, hz1, hz2⟩ := info_parts Try.info_ptr
  have hcells : ∀ j v, xs[j]? = some v → w.cell? ⟨g, off + j, none⟩ = some v := fun j v hj => by
    rw [cell_of_row w g _ cur _ (0, 0) hg]
    rw [← htk, List.getElem?_take] at hj
    split at hj
    · rw [List.getElem?_drop] at hj; simpa using hj
    · cases hj
  obtain ⟨news, hnews⟩ : ∃ news, news = xs.drop (i + 1) := ⟨_, rfl⟩
  have hlen : news.length = n - j := by rw [hnews, List.length_drop, hl, hj]
  obtain ⟨A, hA, hsrc⟩ : ∃ A : Addr, (if c = j then some (⟨g, off, none⟩ : Addr) else some ⟨g, off + j, none⟩) = some A ∧ Hid (∀ t u, news[t]? = some u → w.drew.cell? (A.add t) = some u) := by
    by_cases h : c = j
    · refine ⟨⟨g, off, none⟩, by simp [h], Lib.hid fun t u hu => ?_⟩
      have h0 : news.length = 0 := by rw [hlen]; omega
      rw [List.length_eq_zero_iff.1 h0] at hu
      simp at hu
    · refine ⟨⟨g, off + j, none⟩, by simp [h], Lib.hid fun t u hu => ?_⟩
      rw [hnews, List.getElem?_drop] at hu
      rw [Addr.add_lit, Nat.add_assoc, hj]
      exact hcells _ u hu
  have s1 : Hid (news.length = (n - j) * 1) := Lib.hid (by rw [Nat.mul_one]; exact hlen)
  have s2 : Hid (∀ u ∈ news, u.oneCell' = true) := Lib.hid fun u hu => h1x u (by rw [hnews] at hu; exact List.mem_of_mem_drop hu)
  have hfz : ∀ j, w.frozen? ⟨g, j, none⟩ = false := fun j => frozen_of_row w g j _ _ hg
  have s3 : Hid (∀ t, t < news.length → (w.drew.cell? ⟨g, off + i * 1 + t, none⟩).isSome = true ∧ w.drew.frozen? ⟨g, off + i * 1 + t, none⟩ = false) := Lib.hid fun t ht => by
    refine ⟨?_, hfz _⟩
    show (w.cell? _).isSome = true
    rw [cell_of_row w g _ cur _ (0, 0) hg, Array.getElem?_eq_getElem (by omega)]; rfl
  obtain ⟨cur1, a1, b1, d1⟩ := setCells_row g 54 news (off + i * 1) w.drew cur hg (by omega)
  have G1 := setCells_grown w.drew g (off + i * 1) news
  obtain ⟨W1, hW1⟩ : ∃ W1, W1 = w.drew.setCells g (off + i * 1) news := ⟨_, rfl⟩
  rw [← hW1] at a1 G1
  have hcl : ∀ ty, (Builtin.clear_ #[55] ty #[.slice (some ⟨g, off + (n - 1), none⟩) 1 (c - (n - 1))]).run Try.prog W1 = .ok (.tuple #[]) (W1.setCells g (off + (n - 1)) (List.replicate 1 (.pointer none))) := fun ty =>
    Lib.run_clear_slice W1 _ _ ty _ Try.underlying55 (fun _ => rfl) rfl rfl g (off + (n - 1)) _ _ (by omega) (fun t ht => by rw [cell_of_row W1 g _ cur1 _ (0, 0) a1, Array.getElem?_eq_getElem (by omega)]; rfl) (fun t ht => frozen_of_row W1 g _ _ _ a1)
  obtain ⟨cur2, a2, b2, d2⟩ := setCells_row g 54 [.pointer none] (off + (n - 1)) W1 cur1 a1 (by simp; omega)
  have G2 := setCells_grown W1 g (off + (n - 1)) [.pointer none]
  have hfin := del_list htk hl hi (by simp; omega) _ _ (by rw [d1, hnews, Nat.mul_one]) d2
  have hrow : Row (W1.setCells g (off + (n - 1)) [.pointer none]) 0 54 1 (.slice (some ⟨g, off, none⟩) (n - 1) c) (n - 1) (xs.take i ++ xs.drop (i + 1)) :=
    ⟨by simp; omega, .inr ⟨g, off, c, cur2, rfl, Nat.zero_le _, a2, by omega, by simp only [maxLen]; omega, by omega, by rw [Nat.mul_one]; exact hfin⟩⟩
  have hgr : w.grownBy (W1.setCells g (off + (n - 1)) [.pointer none]) (some g) := ⟨G2.os.trans G1.os, G2.tape.trans G1.tape, G2.output.trans G1.output, Nat.le_trans G1.size G2.size, fun k hk hn => (G2.block k (Nat.lt_of_lt_of_le hk G1.size) hn).trans (G1.block k hk hn)⟩
  have HROW := Lib.hid hrow
  have HGR := Lib.hid hgr
  have hW := Lib.hid hW1
  have hic : i ≤ c := by omega
  have hjc : j ≤ c := by omega
  have hjn : j ≤ n := by omega
  have hij : i ≤ j := by omega
  have hz2 : ¬ ((i : Int) = (j : Int)) := by omega
  have e1 : i + (n - j) = n - 1 := by omega
  have e2 : n - (n - 1) = 1 := by omega
  have e3 : ¬ (c = n - 1) := by omega
  have e4 : ((n - 1 : Nat) : Int) ≤ (n : Int) := by omega
  have e5 : n - 1 ≤ c := by omega
  have hji : n - j + i = n - 1 := by omega
  have hroom : i + (n - j) ≤ c := by omega
  clear hj hrow hgr hfin d1 d2 b1 b2 a1 a2 G1 G2 hcells hfz htk hg hW1 hnews hlen
  go_enter Try.func48, Try.ntmps48
  go_wp2_with fail
  go_region_law (refine step_append_room rfl (.tmp 22) (.tmp 25) 55 rfl 54 i0 1 Try.underlying55 hi0 hz1 g off i c (by simp [Act.eval, Act.put]) A (n - j) (c - j) news (by simp [Act.eval, Act.put]) s1.out hsrc.out s2.out hroom s3.out ?_; rw [← hW.out])
  go_wp2
  go_ret
  exact ⟨rfl, HROW.out, HGR.out⟩
/-- slices.Delete of one node. -/
theorem Delete_calls (w : World) (sv : Value) (n : Nat) (ps : List Nat) (hk : Kids w sv n ps) (i : Nat) (hi : i < n) (j : Nat) (hj : j = i + 1) :
    Calls Try.prog 48 #[sv, .int .i64 i, .int .i64 j] w fun e w' => ∃ sv', e = .returned sv' ∧
      Kids w' sv' (n - 1) (ps.eraseIdx i) ∧ w.grownBy w' sv.ownBlock ∧ sv'.ownBlock = sv.ownBlock := by
  have hlen : ps.length = n := by have := hk.1; simpa using this
  have hmap : (ps.eraseIdx i).map ptr = (ps.map ptr).take i ++ (ps.map ptr).drop (i + 1) := by
    rw [List.eraseIdx_eq_take_drop_succ]; simp
  unfold Kids
  rw [hmap]
  have h1x : ∀ x ∈ ps.map ptr, x.oneCell' = true := fun x hx => by
    obtain ⟨a, _, rfl⟩ := List.mem_map.1 hx; rfl
  rcases hk.2 with ⟨rfl, h0⟩ | ⟨g, off, cap, cur, rfl, hb, hg, hnc, hcm, hcs, ht⟩
  · omega
  · refine (del_row w g off n cap i cur _ (by simp [hlen]) hg hnc hcm hcs ht hi h1x j hj).mono ?_
    rintro e w' ⟨rfl, h1, h2⟩
    exact ⟨_, rfl, h1, h2, rfl⟩
end Go.Proofs.Ytkpfendodmfeoaa
