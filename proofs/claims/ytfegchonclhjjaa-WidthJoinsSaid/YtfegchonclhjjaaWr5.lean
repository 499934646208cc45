import Derived.Test.YtfegchonclhjjaaWr4
import Derived.Test.YtfegchonclhjjaaM3
import Derived.Deep.RegionHeld3
namespace Go.Proofs.Ytfegchonclhjjaa
open Go.RowKit
theorem bnds_snoc (j : Nat) (cs : List Bs) (c : Bs) : bnds j (cs ++ [c]) = bnds j cs ++ [j + cs.flatten.length + c.length] := by
  induction cs generalizing j with
  | nil => simp [bnds]
  | cons d ds ih => simp [bnds, ih, Nat.add_assoc]
theorem bnds_last (j : Nat) (cs : List Bs) : (bnds j cs)[cs.length]? = some (j + cs.flatten.length) := by
  rw [bnds_ats, List.getElem?_append_right (by simp [ats_len])]; simp [ats_len]
/-- ref.Bounds. -/
theorem rBounds_calls (l : Bs) (hl : l.length ≤ 4294967296) (s : ByteArray) (hs : s = ⟨l.toArray⟩) (w : World) :
    Calls Try.prog 17 #[.string s] w fun e w' => ∃ v, e = .returned v ∧ Row w' w.heap.size 3 1 v (bnds 0 (cuts l)).length ((bnds 0 (cuts l)).map n64) ∧ Below w.heap.size w w' := by
  have HS := Lib.hid hs
  clear hs
  have hcl := cuts_len l
  have hcf := cuts_flat l
  obtain ⟨cs, hcs⟩ : ∃ cs, cs = cuts l := ⟨_, rfl⟩
  rw [← hcs] at hcl hcf ⊢
  have HCS := Lib.hid hcs
  have HCF := Lib.hid hcf
  clear hcs hcf
  go_enter Try.func17, Try.ntmps17
  go_wp2_with (go_at_call 19; refine (rCut_calls l hl s HS.out _).mono ?_; rintro e w1 ⟨v1, rfl, hrow1, hb1⟩; rw [← HCS.out] at hrow1; obtain ⟨A1, c1, rfl, _, _, hrd1, hA1⟩ := hrow1.rd)
  have hsz1 := hb1.size
  simp only [World.size_alloc] at hrow1 hA1 hb1 hsz1
  have HB1 : Below w.heap.size w w1 := ((Below.refl _ w).alloc (Nat.le_refl _) _).trans (hb1.mono (by omega))
  have hr0 : Row w1 w.heap.size 3 1 (.slice (some ⟨w.heap.size, 0, none⟩) 1 1) 1 [n64 0] := by
    have := Row.new w #[n64 0] w.heap.size 3 1 1 (Nat.le_refl _) (by decide) rfl
    exact this.at_ fun k hk => hb1.block k (by cases hk; dsimp only; omega)
  clear hrow1 hb1
  go_loopw [3, 5] (fun u3 u5 wr => ∃ k : Nat, u5 = .int .i64 k ∧ k ≤ cs.length ∧ Row wr w.heap.size 3 1 u3 (k + 1) ((bnds 0 (cs.take k)).map n64) ∧ Fr (fun j => j = w.heap.size) w1 wr ∧ (∀ j, u3.ownBlock = some j → j = w.heap.size ∨ w1.heap.size ≤ j)) (fun _ u5 _ => cs.length - (intOf u5).toNat)
  case atStart => exact ⟨0, rfl, Nat.zero_le _, hr0, Fr.refl _ _, fun j hj => by cases hj; exact .inl rfl⟩
  case round =>
    obtain ⟨k, rfl, hk, hrow, hfr, hob⟩ := hrel
    obtain ⟨A, c, rfl, hkc, hcm, hrd, hA⟩ := hrow.rd
    by_cases hgo : k < cs.length
    · obtain ⟨cc, hcc⟩ : ∃ cc, cs[k]? = some cc := ⟨_, List.getElem?_eq_getElem hgo⟩
      have hrd1' := hrd1.fr hfr (fun a ha _ => by have := (hA1 a ha).1; omega)
      obtain ⟨g1, o1, e1, hc1⟩ := hrd1' k (str cc) (by rw [List.getElem?_map, hcc]; rfl)
      obtain ⟨g2, o2, e2, hc2⟩ := hrd k (n64 (cs.take k).flatten.length) (by
        have := bnds_last 0 (cs.take k)
        rw [List.length_take, Nat.min_eq_left hk, Nat.zero_add] at this
        rw [List.getElem?_map, this]; rfl)
      subst e1
      subst e2
      have hfl : (cs.take k).flatten.length + cc.length ≤ l.length := by
        have h1 := congrArg List.length HCF.out
        have h2 : cs.take k ++ cs.drop k = cs := List.take_append_drop ..
        rw [← h2, List.flatten_append, List.length_append] at h1
        rw [show cs.drop k = cc :: cs.drop (k + 1) from by rw [List.drop_eq_getElem_cons hgo]; rw [List.getElem?_eq_getElem hgo] at hcc; cases hcc; rfl, List.flatten_cons, List.length_append] at h1
        omega
      obtain ⟨m, hm⟩ : ∃ m, m = (cs.take k).flatten.length := ⟨_, rfl⟩
      rw [← hm] at hc2 hfl
      obtain ⟨s2, hs2⟩ : ∃ s2 : ByteArray, s2 = ⟨cc.toArray⟩ := ⟨_, rfl⟩
      have hss : s2.size = cc.length := by rw [hs2, str_of]
      rw [show str cc = .string s2 from by rw [hs2]] at hc1
      have hsum : IntKind.i64.wrap ((m : Int) + (cc.length : Int)) = (m : Int) + (cc.length : Int) := IntWalk.i64_in _ (by omega)
      have HM := Lib.hid hm
      have HCC := Lib.hid hcc
      have HROW := Lib.hid hrow
      clear hm hcc hs2 hrd hrd1 hrow hr0
      have hfo : Try.prog.follows Departure.mixedOrders = true := by kernel_rfl
      have hc1d : wr.drew.cell? ⟨g1, o1 + k, none⟩ = some (.string s2) := hc1
      have hc2d : wr.drew.cell? ⟨g2, o2 + k, none⟩ = some (n64 m) := hc2
      have i1 : (k : Int) < (cs.length : Int) := by omega
      have i2 : (k : Int) < ((k + 1 : Nat) : Int) := by omega
      have i3 : (k : Int) < (k : Int) + 1 := by omega
      have hrowd : Row (wr.drew.alloc (.cells #[.int .i64 ((m : Int) + (cc.length : Int))] 3)) w.heap.size 3 1 (.slice (some ⟨g2, o2, none⟩) (k + 1) c) (k + 1) ((bnds 0 (cs.take k)).map n64) := (HROW.out.at_ (w' := wr.drew) (fun _ _ => rfl)).alloc _
      have HRD := Lib.hid hrowd
      clear hrowd
      have hszr := hfr.size
      have hq1 : ∀ W, (wr.alloc (.cells #[.int .i64 ((m : Int) + (cc.length : Int))] 3)).drew.grownBy W (Value.slice (some ⟨g2, o2, none⟩) (k + 1) c).ownBlock → W.cell? ⟨g1, o1 + k, none⟩ = some (.string s2) := fun W hg => by
        have h1 : w.heap.size + 1 ≤ g1 ∧ g1 < w1.heap.size := hA1 _ rfl
        have h2 := hob g2 rfl
        rw [World.cell?_of_block (w := wr) ((hg.block g1 (by simp; omega) (by simp [Value.ownBlock]; omega)).trans (Below.heap_alloc wr _ g1 (by omega)))]
        exact hc1
      have hq2 : ∀ W, Row W w.heap.size 3 1 (.slice (some ⟨g2, o2, none⟩) (k + 1) c) (k + 1) ((bnds 0 (cs.take k)).map n64) → W.cell? ⟨g2, o2 + k, none⟩ = some (n64 m) := fun W h => by
        obtain ⟨A9, c9, e9, _, _, hrd9, _⟩ := h.rd
        cases e9
        obtain ⟨b, o, e, hc⟩ := hrd9 k (n64 m) (by
          have := bnds_last 0 (cs.take k)
          rw [List.length_take, Nat.min_eq_left hk, Nat.zero_add] at this
          rw [List.getElem?_map, this, HM.out]; rfl)
        cases e; exact hc
      have HC1 := Lib.hid hq1
      have HC2 := Lib.hid hq2
      clear hq1 hq2
      go_wp2
      go_region_held3 (fun w' => w'.cell? ⟨g1, o1 + k, none⟩ = some (.string s2) ∧ w'.cell? ⟨g2, o2 + k, none⟩ = some (n64 m))
        (first | go_keep | exact ⟨HC1.out _ hg3, HC2.out _ hold3⟩)
        (first | (refine step_append_keep _ (by rfl) _ _ _ (by rfl) w.heap.size 3 1 8 _ Try.underlying29 Try.info_int rfl (by decide) (.slice (some ⟨g2, o2, none⟩) (k + 1) c) _ _ (by rfl) HRD.out _ 1 1 [.int .i64 ((m : Int) + (cc.length : Int))] (by rfl) rfl (Rd.new1 _ _ _) (by simp [Value.oneCell']) (by omega) (by simp only [maxLen]; omega) (by simp; omega) ?_; intro A3 c3 w3 hrow3 hg3 hb3 hold3))
      go_wp2
      go_roundw
      case rel =>
        have hall : (bnds 0 (cs.take (k + 1))).map n64 = (bnds 0 (cs.take k)).map n64 ++ [.int .i64 ((m : Int) + (cc.length : Int))] := by
          have e2 : cs.take (k + 1) = cs.take k ++ [cc] := by
            have := HCC.out
            rw [List.take_add_one, this]; rfl
          rw [e2, bnds_snoc, List.map_append, HM.out]; simp [n64]
        refine ⟨k + 1, by go_num, by omega, by rw [hall]; exact hrow3, ?_, ?_⟩
        · exact ((hfr.drewN 1).trans (Fr.alloc _ _) (fun _ _ e => e)).trans (Fr.of_grown hg3) (fun i hi e => by have := hob i e; omega)
        · intro j hj
          rcases hb3 with e | e
          · rw [e] at hj; exact hob j hj
          · rw [e] at hj; cases hj; right; simp; omega
      case measure => simp [intOf]; omega
    · have hke : k = cs.length := by omega
      subst hke
      go_wp2
      go_ret
      rw [List.take_length] at hrow
      have hln : (bnds 0 cs).length = cs.length + 1 := by rw [bnds_ats, List.length_append, List.length_map, ats_len]; rfl
      exact ⟨_, rfl, by rw [hln]; exact hrow, HB1.trans (hfr.below (by omega) (fun _ _ e => by omega))⟩
end Go.Proofs.Ytfegchonclhjjaa
