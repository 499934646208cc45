import Derived.Test.YtfegchonclhjjaaWl5
import Derived.Test.YtfegchonclhjjaaM3
import Derived.Deep.RegionWith
import Derived.Deep.RegionHeld3
import Derived.Deep.DeepCutAuto
namespace Go.Proofs.Ytfegchonclhjjaa
open Go.RowKit
theorem cv_fns {s : ByteArray} {c : Bs} (hs : s = ⟨c.toArray⟩) (hc : c.length ≤ 4294967296) : ∃ (cap : World → Nat) (W : World → World), (∀ w, (convert 9 38 (.string s)).run Try.prog w = .ok (.slice (some ⟨w.heap.size, 0, none⟩) c.length (cap w)) (W w)) ∧ (∀ w, c.length ≤ cap w) ∧ (∀ w, RdB (W w) (some ⟨w.heap.size, 0, none⟩) c) ∧ ∀ w, Below w.heap.size w (W w) :=
  ⟨fun w => Classical.choose (cv_at hs hc w), fun w => Classical.choose (Classical.choose_spec (cv_at hs hc w)),
    fun w => (Classical.choose_spec (Classical.choose_spec (cv_at hs hc w))).1, fun w => (Classical.choose_spec (Classical.choose_spec (cv_at hs hc w))).2.1,
    fun w => (Classical.choose_spec (Classical.choose_spec (cv_at hs hc w))).2.2.1, fun w => (Classical.choose_spec (Classical.choose_spec (cv_at hs hc w))).2.2.2⟩
theorem rd_two {w w7 : World} {v u : Value} {cs : Array Value} {e e' : TypeId} (hg : ((w.alloc (.cells cs e)).alloc (.cells #[u] e')).drew.grownBy w7 v.ownBlock) (hv : v.ownBlock = some w.heap.size) : Rd w7 (some ⟨w.heap.size + 1, 0, none⟩) [u] := by
  have h := hg.block (w.heap.size + 1) (by show _ < ((w.alloc (.cells cs e)).alloc (.cells #[u] e')).heap.size; simp) (by rw [hv]; simp)
  have h2 : ((w.alloc (.cells cs e)).alloc (.cells #[u] e')).heap[w.heap.size + 1]? = some (.cells #[u] e') := by
    have := heap_alloc_new (w.alloc (.cells cs e)) (.cells #[u] e')
    rwa [World.size_alloc] at this
  have h3 : w7.heap[w.heap.size + 1]? = some (.cells #[u] e') := h.trans h2
  intro k x hk
  match k, hk with
  | 0, hk => simp at hk; subst hk; exact ⟨_, _, rfl, by simp [World.cell?, h3]⟩
  | k + 1, hk => simp at hk
theorem rd_two' {w w7 : World} {v u : Value} {cs : Array Value} {e e' : TypeId} (hg : ((w.alloc (.cells #[u] e')).alloc (.cells cs e)).drew.grownBy w7 v.ownBlock) (hv : v.ownBlock = some (w.heap.size + 1)) : Rd w7 (some ⟨w.heap.size, 0, none⟩) [u] := by
  have h := hg.block w.heap.size (by show _ < ((w.alloc (.cells #[u] e')).alloc (.cells cs e)).heap.size; simp; omega) (by rw [hv]; simp)
  have h2 : ((w.alloc (.cells #[u] e')).alloc (.cells cs e)).heap[w.heap.size]? = some (.cells #[u] e') := (Below.heap_alloc _ _ _ (by simp)).trans (heap_alloc_new w (.cells #[u] e'))
  have h3 : w7.heap[w.heap.size]? = some (.cells #[u] e') := h.trans h2
  intro k x hk
  match k, hk with
  | 0, hk => simp at hk; subst hk; exact ⟨_, _, rfl, by simp [World.cell?, h3]⟩
  | k + 1, hk => simp at hk
theorem row_two (w : World) (o : Obj) : Row ((w.alloc o).alloc (.cells #[] 9)).drew w.heap.size 9 1 (.slice (some ⟨w.heap.size + 1, 0, none⟩) 0 0) 0 [] := by
  have h := Row.new (w.alloc o) #[] w.heap.size 9 1 0 (by simp) (by simp [maxLen]) (by simp)
  rw [World.size_alloc] at h
  exact h.at_ fun _ _ => rfl
set_option maxHeartbeats 1600000 in
set_option maxRecDepth 100000 in
theorem WidthJoins_walk (sa sb : ByteArray) (w : World) :
    Calls Try.prog 7 #[.string sa, .string sb] w fun e w' => e = .returned (.bool true) ∧ Below w.heap.size w w' := by
  obtain ⟨a, hsa⟩ : ∃ l : Bs, sa = ⟨l.toArray⟩ := ⟨sa.data.toList, by cases sa; rfl⟩
  obtain ⟨b, hsb⟩ : ∃ l : Bs, sb = ⟨l.toArray⟩ := ⟨sb.data.toList, by cases sb; rfl⟩
  have hza : sa.size = a.length := by rw [hsa, str_of]
  have hzb : sb.size = b.length := by rw [hsb, str_of]
  have HSA := Lib.hid hsa
  have HSB := Lib.hid hsb
  clear hsa hsb
  by_cases hba : 500 < a.length
  · go_enter Try.func7, Try.ntmps7
    go_wp2_with fail
    refine (alive_calls _).mono ?_
    rintro e w1 ⟨rfl, hb⟩
    go_wp2
    go_ret
    exact ⟨rfl, hb⟩
  by_cases hbb : 500 < b.length
  · go_enter Try.func7, Try.ntmps7
    go_wp2_with fail
    refine (alive_calls _).mono ?_
    rintro e w1 ⟨rfl, hb⟩
    go_wp2
    go_ret
    exact ⟨rfl, hb⟩
  have ca := clean_len a
  have cb := clean_len b
  have la4 : a.length ≤ 4294967296 := by omega
  have lb4 : b.length ≤ 4294967296 := by omega
  obtain ⟨x, hx⟩ : ∃ x, x = clean a := ⟨_, rfl⟩
  obtain ⟨y, hy⟩ : ∃ y, y = clean b := ⟨_, rfl⟩
  rw [← hx] at ca
  rw [← hy] at cb
  obtain ⟨bx, hbx⟩ : ∃ s : ByteArray, s = ⟨x.toArray⟩ := ⟨_, rfl⟩
  obtain ⟨by0, hby0⟩ : ∃ s : ByteArray, s = ⟨y.toArray⟩ := ⟨_, rfl⟩
  obtain ⟨bz, hbz⟩ : ∃ s : ByteArray, s = ⟨(x ++ y).toArray⟩ := ⟨_, rfl⟩
  have hq2 : ∀ W, (Op.stringOp .add bx by0).run Try.prog W = .ok (.string bz) W := fun W => by rw [hbz]; exact add_str hbx hby0 (by omega) W
  obtain ⟨fa, WA, hcvA, hcA, RA, BA⟩ := cv_fns HSA.out la4
  obtain ⟨fb, WB, hcvB, hcB, RB, BB⟩ := cv_fns HSB.out lb4
  have HCA := Lib.hid hcA
  have HCB := Lib.hid hcB
  have HRA := Lib.hid RA
  have HRB := Lib.hid RB
  have HX := Lib.hid hx
  have HY := Lib.hid hy
  have HBX := Lib.hid hbx
  have HBY := Lib.hid hby0
  have HBZ := Lib.hid hbz
  clear hx hy hbx hby0 hbz hcA hcB RA RB
  have lx4 : x.length ≤ 4294967296 := by omega
  have ly4 : y.length ≤ 4294967296 := by omega
  go_enter Try.func7, Try.ntmps7
  go_upto_region 3 with fail
  go_cut [5, 6] (fun s5 s6 wx => s5 = .string bx ∧ s6 = .string by0 ∧ Below w.heap.size w wx)
  case first =>
    go_region_with (first
      | (go_at_call 27; (with_reducible refine (rClean_calls _ _ a _ ?_ (HCA.out _) la4).mono ?_); (first | exact HRA.out w.drew | exact HRA.out (WB w.drew) | exact (HRA.out w.drew).later (BB _)); rintro e w2 ⟨v2, rfl, hrow2, hb2⟩; have E2 : Below w.heap.size w w2 := (by first | exact ((Below.refl w.heap.size w).drew.trans (BA w.drew)).trans (hb2.mono (BA w.drew).size) | exact (((Below.refl w.heap.size w).drew.trans (BB w.drew)).trans ((BA (WB w.drew)).mono (BB w.drew).size)).trans (hb2.mono (Nat.le_trans (BB w.drew).size (BA _).size)) | exact (((Below.refl w.heap.size w).drew.trans (BA w.drew)).trans ((BB (WA w.drew)).mono (BA w.drew).size)).trans (hb2.mono (Nat.le_trans (BA w.drew).size (BB _).size))); rw [← HX.out] at hrow2; obtain ⟨A2, c2, rfl, _, _, hrd2, _⟩ := hrow2.rd; have hs2 := row_str w2 A2 x c2 hrd2; rw [← HBX.out] at hs2; have hs2' := row_str (WB w2) A2 x c2 (Rd.later hrd2 (BB w2)); rw [← HBX.out] at hs2')
      | (go_at_call 27; (with_reducible refine (rClean_calls _ _ b _ ?_ (HCB.out _) lb4).mono ?_); (first | exact HRB.out w2 | exact (HRB.out _).later hb2 | exact ((HRB.out w.drew).later (BA _)).later hb2); rintro e w4 ⟨v4, rfl, hrow4, hb4⟩; have E4 : Below w.heap.size w w4 := (by first | exact E2.trans (hb4.mono E2.size) | exact (E2.trans ((BB w2).mono E2.size)).trans (hb4.mono (Nat.le_trans E2.size (BB w2).size))); rw [← HY.out] at hrow4; obtain ⟨A4, c4, rfl, _, _, hrd4, _⟩ := hrow4.rd; have hs4 := row_str w4 A4 y c4 hrd4; rw [← HBY.out] at hs4; have hs2'' := row_str w4 A2 x c2 (by first | exact Rd.later hrd2 hb4 | exact Rd.later (Rd.later hrd2 (BB _)) hb4); rw [← HBX.out] at hs2''))
    all_goals (go_wp2_with fail; go_meet; exact ⟨rfl, rfl, E4⟩)
  case rest =>
    obtain ⟨rfl, rfl, B0⟩ := hcut
    obtain ⟨L, hL⟩ : ∃ L, L = cuts x := ⟨_, rfl⟩
    obtain ⟨M, hM⟩ : ∃ M, M = cuts y := ⟨_, rfl⟩
    obtain ⟨Z, hZ⟩ : ∃ Z, Z = cuts (x ++ y) := ⟨_, rfl⟩
    have hLl := cuts_len x
    have hMl := cuts_len y
    have hZl := cuts_len (x ++ y)
    rw [← hL] at hLl
    rw [← hM] at hMl
    rw [← hZ, List.length_append] at hZl
    have HL := Lib.hid hL
    have HM := Lib.hid hM
    have HZ := Lib.hid hZ
    clear hL hM hZ
    have lz4 : (x ++ y).length ≤ 4294967296 := by rw [List.length_append]; omega
    go_wp2_with fail
    refine (Cut_calls x lx4 bx HBX.out _).mono ?_
    rintro e w1 ⟨v1, rfl, hrow1, hb1⟩
    rw [← HL.out] at hrow1
    obtain ⟨A1, c1, rfl, hn1, hm1, hrd1, hA1⟩ := hrow1.rd
    have B1 := B0.trans (hb1.mono B0.size)
    have HR1 := Lib.hid hrd1
    have hA1' : ∀ a, A1 = some a → a.block < w1.heap.size := fun a h => (hA1 a h).2
    clear hrow1 hrd1 hA1
    go_wp2_with fail
    refine (Cut_calls y ly4 by0 HBY.out _).mono ?_
    rintro e w2 ⟨v2, rfl, hrow2, hb2⟩
    rw [← HM.out] at hrow2
    obtain ⟨A2, c2, rfl, hn2, hm2, hrd2, hA2⟩ := hrow2.rd
    have B2 := B1.trans (hb2.mono B1.size)
    have HR2 := Lib.hid hrd2
    have hA2' : ∀ a, A2 = some a → a.block < w2.heap.size := fun a h => (hA2 a h).2
    clear hrow2 hrd2 hA2
    go_wp2_with fail
    refine (Cut_calls _ lz4 bz HBZ.out _).mono ?_
    rintro e w3 ⟨v3, rfl, hrow3, hb3⟩
    rw [← HZ.out] at hrow3
    obtain ⟨A3, c3, rfl, hn3, hm3, hrd3, hA3⟩ := hrow3.rd
    have B3 := B2.trans (hb3.mono B2.size)
    have HR3 := Lib.hid hrd3
    have hA3' : ∀ a, A3 = some a → a.block < w3.heap.size := fun a h => (hA3 a h).2
    clear hrow3 hrd3 hA3
    have HR1c := Lib.hid ((HR1.out.later hb2).later hb3)
    have HR2c := Lib.hid (HR2.out.later hb3)
    obtain ⟨cap4, W4, hcv4, _, hrd4, hb4⟩ := cv_at HBY.out ly4 w3
    go_wp2_with fail
    clear hcv4
    refine (rNext_calls _ cap4 y W4 hrd4 ly4).mono ?_
    rintro e w5 ⟨rfl, hb5⟩
    have C5 : Below w3.heap.size w3 w5 := hb4.trans (hb5.mono hb4.size)
    have B5 := B3.trans (C5.mono B3.size)
    have R1 := Lib.hid (HR1c.out.later C5)
    have R2 := Lib.hid (HR2c.out.later C5)
    have R3 := Lib.hid (HR3.out.later C5)
    have s25 : w2.heap.size ≤ w5.heap.size := Nat.le_trans hb3.size C5.size
    have s35 : w3.heap.size ≤ w5.heap.size := C5.size
    have s15 : w1.heap.size ≤ w5.heap.size := Nat.le_trans hb2.size s25
    clear HR1 HR2 HR3 HR1c HR2c hb1 hb2 hb3 hb4 hb5 hrd4
    clear B0 B1 B2 B3 C5 hcvA hcvB HRA HRB HCA HCB
    have hLe : L = [] ↔ x = [] := ⟨fun h => Classical.byContradiction fun h2 => cuts_ne h2 (HL.out ▸ h), fun h => by rw [HL.out, h, cuts_nil]⟩
    have hMe : M = [] ↔ y = [] := ⟨fun h => Classical.byContradiction fun h2 => cuts_ne h2 (HM.out ▸ h), fun h => by rw [HM.out, h, cuts_nil]⟩
    by_cases hA : y = [] ∨ wof ((dec y).1 : Int) ≠ 0 ∨ x = []
    · have hz : Z = L ++ M := by rw [HZ.out, HL.out, HM.out, HX.out]; exact cuts_app (by rw [← HX.out]; exact hA)
      have hzl : Z.length = L.length + M.length := by rw [hz, List.length_append]
      have HZQ := Lib.hid hz
      have HZL := Lib.hid hzl
      clear hzl
      have hk : ∀ K : Prop, (((L.length : Int) == 0) = true → K) → (((L.length : Int) == 0) = false → nxt y = (0, 0) → K) → (∀ (r : Int) (n : Nat), ((L.length : Int) == 0) = false → nxt y = (dec y) → r = ((dec y).1 : Int) → n = (dec y).2 → ((n : Int) == 0) = false → (wof r != 0) = true → K) → K := by
        intro K k1 k2 k3
        by_cases hx : x = []
        · exact k1 (by rw [hLe.2 hx]; rfl)
        · have hl0 : ((L.length : Int) == 0) = false := by
            simpa using fun e => hx (hLe.1 e)
          by_cases hy : y = []
          · exact k2 hl0 (by rw [hy]; rfl)
          · have hd := dec_pos y
            refine k3 ((dec y).1 : Int) (dec y).2 hl0 (nxt_ne hy) rfl rfl (by simp; omega) ?_
            rcases hA with h | h | h
            · exact absurd h hy
            · simpa using h
            · exact absurd h hx
      clear hA hz hLe hMe
      refine hk _ ?_ ?_ ?_
      · intro hl0
        clear hk
        go_wp2_with fail
        refine (alive_calls _).mono ?_
        rintro e w6 ⟨rfl, hb6⟩
        have B6 := B5.trans (hb6.mono B5.size)
        have Q1 := Lib.hid (R1.out.later hb6)
        have Q2 := Lib.hid (R2.out.later hb6)
        have Q3 := Lib.hid (R3.out.later hb6)
        have hnw := Row.new w6 #[] w6.heap.size 9 1 0 (Nat.le_refl _) (by simp [maxLen]) (by simp)
        have hq1 := Lib.hid (Rd.later Q1.out ((Below.refl w6.heap.size w6).alloc (Nat.le_refl _) (.cells #[] 9)))
        go_wp2_with (first
          | (at_builtin; refine wpList_append_rowG _ rfl _ _ 27 rfl w6.heap.size 9 1 16 _ Try.underlying27 Try.info_str rfl (by decide) (.slice (some ⟨w6.heap.size, 0, none⟩) 0 0) 0 [] rfl hnw A1 _ _ (L.map str) rfl (by simp) hq1.out (by simp [Value.oneCell']) (by omega) (by simp only [maxLen]; omega) (by simp) ?_; intro A7 c7 w7 hrow7 hg7 hb7; rw [Nat.zero_add, List.nil_append] at hrow7; have C7 : Below w6.heap.size w6 w7 := app_below (Below.refl _ _) (Nat.le_refl _) hg7 (fun k e => by simp [Value.ownBlock] at e; omega))
          | (at_builtin; refine wpList_append_rowG _ rfl _ _ 27 rfl w6.heap.size 9 1 16 _ Try.underlying27 Try.info_str rfl (by decide) (.slice A7 L.length c7) _ _ rfl hrow7 A2 _ _ (M.map str) rfl (by simp) (Rd.later Q2.out C7) (by simp [Value.oneCell']) (by omega) (by simp only [maxLen]; omega) C7.size ?_; intro A8 c8 w8 hrow8 hg8 hb8; have C8 : Below w6.heap.size w6 w8 := Below.grown C7 hg8 C7.size (fun j e => (hrow7.lt _ e).1); obtain ⟨A8', c8', e8, _, _, hrd8, _⟩ := hrow8.rd; cases e8; rw [← List.map_append, ← HZQ.out] at hrd8)
          | (go_at_call 18; rw [← HZL.out]; refine (same_calls A3 A8 c3 c8 Z Z w8 (Rd.later Q3.out C8) hrd8 (by omega)).mono ?_; rintro e w9 ⟨rfl, hb9⟩; rw [decide_eq_true rfl]))
        go_ret
        have B8 := B6.trans (C8.mono B6.size)
        exact ⟨rfl, B8.trans (hb9.mono B8.size)⟩
      · intro hl0 hny
        clear hk
        rw [hny]
        go_wp2_with fail
        refine (alive_calls _).mono ?_
        rintro e w6 ⟨rfl, hb6⟩
        have B6 := B5.trans (hb6.mono B5.size)
        have Q1 := Lib.hid (R1.out.later hb6)
        have Q2 := Lib.hid (R2.out.later hb6)
        have Q3 := Lib.hid (R3.out.later hb6)
        have hnw := Row.new w6 #[] w6.heap.size 9 1 0 (Nat.le_refl _) (by simp [maxLen]) (by simp)
        have hq1 := Lib.hid (Rd.later Q1.out ((Below.refl w6.heap.size w6).alloc (Nat.le_refl _) (.cells #[] 9)))
        go_wp2_with (first
          | (at_builtin; refine wpList_append_rowG _ rfl _ _ 27 rfl w6.heap.size 9 1 16 _ Try.underlying27 Try.info_str rfl (by decide) (.slice (some ⟨w6.heap.size, 0, none⟩) 0 0) 0 [] rfl hnw A1 _ _ (L.map str) rfl (by simp) hq1.out (by simp [Value.oneCell']) (by omega) (by simp only [maxLen]; omega) (by simp) ?_; intro A7 c7 w7 hrow7 hg7 hb7; rw [Nat.zero_add, List.nil_append] at hrow7; have C7 : Below w6.heap.size w6 w7 := app_below (Below.refl _ _) (Nat.le_refl _) hg7 (fun k e => by simp [Value.ownBlock] at e; omega))
          | (at_builtin; refine wpList_append_rowG _ rfl _ _ 27 rfl w6.heap.size 9 1 16 _ Try.underlying27 Try.info_str rfl (by decide) (.slice A7 L.length c7) _ _ rfl hrow7 A2 _ _ (M.map str) rfl (by simp) (Rd.later Q2.out C7) (by simp [Value.oneCell']) (by omega) (by simp only [maxLen]; omega) C7.size ?_; intro A8 c8 w8 hrow8 hg8 hb8; have C8 : Below w6.heap.size w6 w8 := Below.grown C7 hg8 C7.size (fun j e => (hrow7.lt _ e).1); obtain ⟨A8', c8', e8, _, _, hrd8, _⟩ := hrow8.rd; cases e8; rw [← List.map_append, ← HZQ.out] at hrd8)
          | (go_at_call 18; rw [← HZL.out]; refine (same_calls A3 A8 c3 c8 Z Z w8 (Rd.later Q3.out C8) hrd8 (by omega)).mono ?_; rintro e w9 ⟨rfl, hb9⟩; rw [decide_eq_true rfl]))
        go_ret
        have B8 := B6.trans (C8.mono B6.size)
        exact ⟨rfl, B8.trans (hb9.mono B8.size)⟩
      · intro r n hl0 hny hr hn hn0 hr0
        clear hk
        rw [hny, show i64 ((dec y).1 : Int) = .int .i64 r from by rw [hr], show i64 ((dec y).2 : Int) = .int .i64 n from by rw [hn]]
        have HR9 := Lib.hid hr
        have HN9 := Lib.hid hn
        clear hr hn hny
        obtain ⟨z, hzz⟩ : ∃ z, z = wof r := ⟨_, rfl⟩
        rw [← hzz] at hr0
        have HZZ := Lib.hid hzz
        clear hzz
        go_wp2_with fail
        refine (rOf_calls r w5).mono ?_
        rintro e w5b ⟨rfl, hb5b⟩
        rw [← HZZ.out]
        have B5 := B5.trans (hb5b.mono B5.size)
        have R1 := Lib.hid (R1.out.later hb5b)
        have R2 := Lib.hid (R2.out.later hb5b)
        have R3 := Lib.hid (R3.out.later hb5b)
        go_wp2_with fail
        refine (alive_calls _).mono ?_
        rintro e w6 ⟨rfl, hb6⟩
        have B6 := B5.trans (hb6.mono B5.size)
        have Q1 := Lib.hid (R1.out.later hb6)
        have Q2 := Lib.hid (R2.out.later hb6)
        have Q3 := Lib.hid (R3.out.later hb6)
        have hnw := Row.new w6 #[] w6.heap.size 9 1 0 (Nat.le_refl _) (by simp [maxLen]) (by simp)
        have hq1 := Lib.hid (Rd.later Q1.out ((Below.refl w6.heap.size w6).alloc (Nat.le_refl _) (.cells #[] 9)))
        go_wp2_with (first
          | (at_builtin; refine wpList_append_rowG _ rfl _ _ 27 rfl w6.heap.size 9 1 16 _ Try.underlying27 Try.info_str rfl (by decide) (.slice (some ⟨w6.heap.size, 0, none⟩) 0 0) 0 [] rfl hnw A1 _ _ (L.map str) rfl (by simp) hq1.out (by simp [Value.oneCell']) (by omega) (by simp only [maxLen]; omega) (by simp) ?_; intro A7 c7 w7 hrow7 hg7 hb7; rw [Nat.zero_add, List.nil_append] at hrow7; have C7 : Below w6.heap.size w6 w7 := app_below (Below.refl _ _) (Nat.le_refl _) hg7 (fun k e => by simp [Value.ownBlock] at e; omega))
          | (at_builtin; refine wpList_append_rowG _ rfl _ _ 27 rfl w6.heap.size 9 1 16 _ Try.underlying27 Try.info_str rfl (by decide) (.slice A7 L.length c7) _ _ rfl hrow7 A2 _ _ (M.map str) rfl (by simp) (Rd.later Q2.out C7) (by simp [Value.oneCell']) (by omega) (by simp only [maxLen]; omega) C7.size ?_; intro A8 c8 w8 hrow8 hg8 hb8; have C8 : Below w6.heap.size w6 w8 := Below.grown C7 hg8 C7.size (fun j e => (hrow7.lt _ e).1); obtain ⟨A8', c8', e8, _, _, hrd8, _⟩ := hrow8.rd; cases e8; rw [← List.map_append, ← HZQ.out] at hrd8)
          | (go_at_call 18; rw [← HZL.out]; refine (same_calls A3 A8 c3 c8 Z Z w8 (Rd.later Q3.out C8) hrd8 (by omega)).mono ?_; rintro e w9 ⟨rfl, hb9⟩; rw [decide_eq_true rfl]))
        go_ret
        have B8 := B6.trans (C8.mono B6.size)
        exact ⟨rfl, B8.trans (hb9.mono B8.size)⟩
    · have hy0 : y ≠ [] := fun h => hA (.inl h)
      have hx0 : x ≠ [] := fun h => hA (.inr (.inr h))
      have hw0 : wof ((dec y).1 : Int) = 0 := Classical.byContradiction fun h => hA (.inr (.inl h))
      obtain ⟨L0, la, hLq⟩ : ∃ L0 la, L = L0 ++ [la] := ⟨L.dropLast, L.getLast (fun h => hx0 (hLe.1 h)), (List.dropLast_concat_getLast _).symm⟩
      obtain ⟨mh, M0, hMq⟩ : ∃ mh M0, M = mh :: M0 := by
        cases hm : M with
        | nil => exact absurd (hMe.1 hm) hy0
        | cons a b => exact ⟨a, b, rfl⟩
      have hz : Z = (L0 ++ [la ++ mh]) ++ M0 := by
        have := cuts_join (a := a) hy0 (by rw [← HX.out]; exact hx0) hw0
        rw [← HX.out, ← HL.out, ← HM.out, ← HZ.out, hLq, hMq] at this
        rw [this]; simp
      have hll : L.length = L0.length + 1 := by rw [hLq]; simp
      have hml : M.length = M0.length + 1 := by rw [hMq]; simp
      have hzl : Z.length = L0.length + 1 + M0.length := by rw [hz]; simp; omega
      obtain ⟨g1, o1, rfl, k1⟩ := R1.out L0.length (str la) (by rw [hLq]; simp)
      obtain ⟨g2, o2, rfl, k2⟩ := R2.out 0 (str mh) (by rw [hMq]; simp)
      rw [Nat.add_zero] at k2
      have hlal : la.length ≤ 4294967296 - mh.length ∧ mh.length ≤ 2147483648 := by
        have h1 := mem_cuts (l := x) (c := la) (by rw [← HL.out, hLq]; simp)
        have h2 := mem_cuts (l := y) (c := mh) (by rw [← HM.out, hMq]; simp)
        omega
      have r1 : ∀ W, Below w5.heap.size w5 W → Rd W (some ⟨g1, o1, none⟩) (L0.map str) := fun W h => by
        have := (R1.out.later h).take L0.length
        rw [hLq] at this
        simpa using this
      have r2 : ∀ W, Below w5.heap.size w5 W → Rd W (some ⟨g2, o2 + 1, none⟩) (M0.map str) := fun W h => by
        intro k u hk
        obtain ⟨b9, o9, e9, h9⟩ := (R2.out.later h) (k + 1) u (by rw [hMq, List.map_cons, List.getElem?_cons_succ]; exact hk)
        cases e9
        exact ⟨_, _, rfl, by rw [Nat.add_assoc, Nat.add_comm 1 k]; exact h9⟩
      have r3 : ∀ W, Below w5.heap.size w5 W → Rd W A3 (Z.map str) := fun W h => R3.out.later h
      have hga : g1 < w5.heap.size := World.block_lt_of_cell? w5 _ k1
      have hgb : g2 < w5.heap.size := World.block_lt_of_cell? w5 _ k2
      obtain ⟨n0, hn0⟩ : ∃ n, n = L0.length := ⟨_, rfl⟩
      obtain ⟨m0, hm0⟩ : ∃ n, n = M0.length := ⟨_, rfl⟩
      rw [← hn0] at hll hzl k1
      rw [← hm0] at hml hzl
      obtain ⟨ba, hba2⟩ : ∃ s : ByteArray, s = ⟨la.toArray⟩ := ⟨_, rfl⟩
      obtain ⟨bm, hbm⟩ : ∃ s : ByteArray, s = ⟨mh.toArray⟩ := ⟨_, rfl⟩
      obtain ⟨bj, hbj⟩ : ∃ s : ByteArray, s = ⟨(la ++ mh).toArray⟩ := ⟨_, rfl⟩
      rw [lit_of hba2] at k1
      rw [lit_of hbm] at k2
      have hadd : ∀ W, (Op.stringOp .add ba bm).run Try.prog W = .ok (.string bj) W := fun W => by rw [hbj]; exact add_str hba2 hbm (by omega) W
      have hq0 : ((L.length : Int) == 0) = false := beq_eq_false_iff_ne.2 (by omega)
      have hd := dec_pos y
      have hnn : (((dec y).2 : Int) == 0) = false := beq_eq_false_iff_ne.2 (by omega)
      have hny := nxt_ne hy0
      obtain ⟨r, hr⟩ : ∃ r : Int, r = ((dec y).1 : Int) := ⟨_, rfl⟩
      obtain ⟨n, hn⟩ : ∃ n, n = (dec y).2 := ⟨_, rfl⟩
      rw [← hr] at hw0
      rw [← hn] at hnn hd
      rw [hny, show i64 ((dec y).1 : Int) = .int .i64 r from by rw [hr], show i64 ((dec y).2 : Int) = .int .i64 n from by rw [hn]]
      have HLL := Lib.hid hll
      have HML := Lib.hid hml
      have HZL := Lib.hid hzl
      have HZQ := Lib.hid hz
      have HR1 := Lib.hid r1
      have HR2 := Lib.hid r2
      have HR3 := Lib.hid r3
      have HW0 := Lib.hid hw0
      have HBJ := Lib.hid hbj
      have HN0 := Lib.hid hn0
      have HM0 := Lib.hid hm0
      have l1 : (0 : Int) ≤ (n0 : Int) := by omega
      have l2 : (n0 : Int) < (L.length : Int) := by omega
      have l3 : (n0 : Int) ≤ (c1 : Int) := by omega
      have l4 : (1 : Int) ≤ (M.length : Int) := by omega
      have l5 : (0 : Int) < (M.length : Int) := by omega
      have l5' : 0 < M.length := by omega
      have l6 : n0 ≤ 4294967296 := by omega
      have hZ4 : Z.length ≤ 4294967296 := by omega
      have l7 : m0 ≤ 4294967296 := by omega
      have l8 : IntKind.i64.wrap ((L.length : Int) - 1) = (n0 : Int) := by
        rw [show (L.length : Int) - 1 = (n0 : Int) from by omega]; exact IntWalk.i64_in _ (by omega)
      have l9 : n0 ≤ c1 := by omega
      clear hll hml hzl hz r1 r2 r3 hw0 hbj hn0 hm0 hba2 hbm hLe hMe hA hlal hLq hMq hr hn hny R1 R2 R3
      go_wp2_with fail
      refine (rOf_calls r w5).mono ?_
      rintro e w6 ⟨rfl, hb6⟩
      rw [HW0.out]
      have B6 := B5.trans (hb6.mono B5.size)
      have q1 := (hb6.cell (p := ⟨g1, o1 + n0, none⟩) hga).trans k1
      have q2 := (hb6.cell (p := ⟨g2, o2, none⟩) hgb).trans k2
      go_wp2
      have S0 : w5.heap.size ≤ w6.heap.size := hb6.size
      have hr1 : ∀ W, Below w6.heap.size w6 W → Rd W (some ⟨g1, o1, none⟩) (L0.map str) := fun W h => HR1.out W (hb6.trans (h.mono S0))
      have HR1' := Lib.hid hr1
      clear hr1
      have m1 : L0.length = n0 := HN0.out.symm
      have HM1 := Lib.hid m1
      clear m1
      have hg1 : g1 < w6.heap.size := by omega
      have hg2 : g2 < w6.heap.size := by omega
      have hS : ∀ W, Below w6.heap.size w6 W → Below w6.heap.size w6 W ∧ W.cell? ⟨g1, o1 + n0, none⟩ = some (.string ba) ∧ W.cell? ⟨g2, o2, none⟩ = some (.string bm) := fun W h => ⟨h, (h.cell (p := ⟨g1, o1 + n0, none⟩) hg1).trans q1, (h.cell (p := ⟨g2, o2, none⟩) hg2).trans q2⟩
      have HSS := Lib.hid hS
      clear hS
      go_region_held3 (fun w' => Below w6.heap.size w6 w' ∧ w'.cell? ⟨g1, o1 + n0, none⟩ = some (.string ba) ∧ w'.cell? ⟨g2, o2, none⟩ = some (.string bm)) ((refine HSS.out _ ?_; (first | exact C8 | exact C7.alloc C7.size _ | exact C7 | go_grown))) (first
        | (refine step_append_row _ (by rfl) _ _ _ (by rfl) w6.heap.size 9 1 16 _ Try.underlying27 Try.info_str rfl (by decide) (.slice (some ⟨w6.heap.size, 0, none⟩) 0 0) 0 [] (by rfl) (Row.new _ #[] _ _ _ _ (by simp) (by simp [maxLen]) (by simp)) (some ⟨g1, o1, none⟩) n0 _ (L0.map str) (by rfl) (by simp [HM1.out]) (HR1'.out _ (by go_grown)) (by simp [Value.oneCell']) (by omega) (by simp only [maxLen]; omega) (by simp <;> omega) ?_; intro A7 c7 w7 hrow7 hg7 hb7; rw [Nat.zero_add, List.nil_append] at hrow7; have C7 : Below w6.heap.size w6 w7 := Below.grown (by go_grown) hg7 (by simp <;> omega) (fun j e => by simp [Value.ownBlock] at e; omega))
        | (refine step_append_row _ (by rfl) _ _ _ (by rfl) w6.heap.size 9 1 16 _ Try.underlying27 Try.info_str rfl (by decide) (.slice (some ⟨w6.heap.size, 0, none⟩) 0 0) 0 [] (by rfl) (((Row.new w6 #[] w6.heap.size 9 1 0 (Nat.le_refl _) (by simp [maxLen]) (by simp)).alloc _).at_ (fun _ _ => rfl)) (some ⟨g1, o1, none⟩) n0 _ (L0.map str) (by rfl) (by simp [HM1.out]) (HR1'.out _ (by go_grown)) (by simp [Value.oneCell']) (by omega) (by simp only [maxLen]; omega) (by simp; omega) ?_; intro A7 c7 w7 hrow7 hg7 hb7; have C7 : Below w6.heap.size w6 w7 := Below.grown (by go_grown) hg7 (by simp; omega) (fun j e => by simp [Value.ownBlock] at e; omega); have hbj7 : Rd w7 (some ⟨w6.heap.size + 1, 0, none⟩) [.string bj] := rd_two hg7 rfl)
        | (refine step_append_row _ (by rfl) _ _ _ (by rfl) w6.heap.size 9 1 16 _ Try.underlying27 Try.info_str rfl (by decide) (.slice A7 (0 + n0) c7) _ _ (by rfl) hrow7 _ 1 1 [.string bj] (by rfl) rfl hbj7 (by simp [Value.oneCell']) (by omega) (by simp only [maxLen]; omega) C7.size ?_; intro A8 c8 w8 hrow8 hg8 hb8; have C8 : Below w6.heap.size w6 w8 := Below.grown C7 hg8 C7.size (fun j e => (hrow7.lt _ e).1))
        | (refine step_append_row _ (by rfl) _ _ _ (by rfl) w6.heap.size 9 1 16 _ Try.underlying27 Try.info_str rfl (by decide) (.slice (some ⟨w6.heap.size + 1, 0, none⟩) 0 0) 0 [] (by rfl) (row_two _ _) (some ⟨g1, o1, none⟩) n0 _ (L0.map str) (by rfl) (by simp [HM1.out]) (HR1'.out _ (by go_grown)) (by simp [Value.oneCell']) (by omega) (by simp only [maxLen]; omega) (by simp; omega) ?_; intro A7 c7 w7 hrow7 hg7 hb7; have C7 : Below w6.heap.size w6 w7 := Below.grown (by go_grown) hg7 (by simp; omega) (fun j e => by simp [Value.ownBlock] at e; omega); have hbj8 : Rd w7 (some ⟨w6.heap.size, 0, none⟩) [.string bj] := rd_two' hg7 rfl)
        | (refine step_append_row _ (by rfl) _ _ _ (by rfl) w6.heap.size 9 1 16 _ Try.underlying27 Try.info_str rfl (by decide) (.slice A7 (0 + n0) c7) _ _ (by rfl) hrow7 _ 1 1 [.string bj] (by rfl) rfl hbj8 (by simp [Value.oneCell']) (by omega) (by simp only [maxLen]; omega) C7.size ?_; intro A8 c8 w8 hrow8 hg8 hb8; have C8 : Below w6.heap.size w6 w8 := Below.grown C7 hg8 C7.size (fun j e => (hrow7.lt _ e).1))
        | (refine step_append_row _ (by rfl) _ _ _ (by rfl) w6.heap.size 9 1 16 _ Try.underlying27 Try.info_str rfl (by decide) (.slice A7 n0 c7) _ _ (by rfl) (hrow7.alloc _) _ 1 1 [.string bj] (by rfl) rfl (Rd.new1 _ _ _) (by simp [Value.oneCell']) (by omega) (by simp only [maxLen]; omega) (by have := C7.size; simp; omega) ?_; intro A8 c8 w8 hrow8 hg8 hb8; have C8 : Below w6.heap.size w6 w8 := Below.grown (C7.alloc C7.size _) hg8 (by have := C7.size; simp; omega) (fun j e => (hrow7.lt _ e).1)))
      all_goals
        (try simp only [Nat.zero_add, List.nil_append] at hrow8)
        have B8 := B6.trans (C8.mono B6.size)
        have D8 : Below w5.heap.size w5 w8 := hb6.trans (C8.mono S0)
        clear hrow7 hg7 hb7 C7 hg8 hb8 q1 q2
        (try clear hbj7)
        (try clear hbj8)
        go_wp2_with fail
        refine (alive_calls _).mono ?_
        rintro e w9 ⟨rfl, hb9⟩
        have B9 := B8.trans (hb9.mono B8.size)
        have D9 := D8.trans (hb9.mono D8.size)
        have hrow9 := hrow8.below hb9 (Nat.le_refl _)
        have hs9 : w6.heap.size ≤ w9.heap.size := Nat.le_trans C8.size hb9.size
        have hml2 : M.length - 1 = m0 := by have := HML.out; omega
        have HML2 := Lib.hid hml2
        have hle2 : M.length - 1 ≤ 4294967296 := by omega
        have hrd9 := HR2.out w9 D9
        have hM0l : M0.length = m0 := HM0.out.symm
        have HM0L := Lib.hid hM0l
        have hfin : ∀ (A10 : Option Addr) (c10 : Nat) (w10 : World), Row w10 w6.heap.size 9 1 (.slice A10 (n0 + 1 + (M.length - 1)) c10) (n0 + 1 + (M.length - 1)) ((L0.map str ++ [.string bj]) ++ M0.map str) → n0 + 1 + (M.length - 1) = Z.length ∧ Rd w10 A10 (Z.map str) := fun A10 c10 w10 h => by
          refine ⟨by have := HZL.out; omega, ?_⟩
          obtain ⟨A', c', e, _, _, hrd, _⟩ := h.rd
          cases e
          rw [← lit_of HBJ.out] at hrd
          rw [HZQ.out]
          simpa using hrd
        have hw6 : w.heap.size ≤ w6.heap.size := B6.size
        have HFIN := Lib.hid hfin
        clear hml2 hM0l hfin hrow8 HR2
        have hout : ∀ j, (Value.slice A8 (n0 + 1) c8).ownBlock = some j → w6.heap.size ≤ j := fun j e => (hrow9.lt _ e).1
        by_cases hc2 : c2 = 1
        · have hm00 : m0 = 0 := by have := HML.out; omega
          have hM00 : M0 = [] := List.eq_nil_of_length_eq_zero (by rw [HM0L.out]; exact hm00)
          have e1 : ([] : List Value).length = (M.length - 1) * 1 := by rw [HML2.out, hm00]; rfl
          have HM00 := Lib.hid hM00
          clear hm00 hM00
          go_wp2_with (first
            | (at_builtin; refine wpList_append_rowG _ rfl _ _ 27 rfl w6.heap.size 9 1 16 _ Try.underlying27 Try.info_str rfl (by decide) (.slice A8 (n0 + 1) c8) _ _ rfl hrow9 _ _ _ [] rfl e1 (Rd.nil _ _) (by simp) (by omega) (by simp only [maxLen]; omega) hs9 ?_; intro A10 c10 w10 hrow10 hg10 hb10; obtain ⟨f1, f2⟩ := HFIN.out A10 c10 w10 (by rw [HM00.out]; exact hrow10); have C10 : Below w6.heap.size w9 w10 := (Below.refl _ _).grown hg10 hs9 hout; rw [f1])
            | (go_at_call 18; refine (same_calls A3 A10 c3 c10 Z Z w10 (Rd.fr (HR3.out w9 D9) (Fr.of_grown hg10) (fun a ha _ e => by have := hout _ e; have := hA3' a ha; omega)) f2 hZ4).mono ?_; rintro e w11 ⟨rfl, hb11⟩; rw [decide_eq_true rfl]))
          go_ret
          have B10 := B9.trans (C10.mono (Nat.le_trans hw6 (Nat.le_refl _)))
          exact ⟨rfl, B10.trans (hb11.mono B10.size)⟩
        · have e1 : (M0.map str).length = (M.length - 1) * 1 := by rw [List.length_map, HM0L.out, HML2.out]; omega
          have HRD9 := Lib.hid hrd9
          clear hrd9
          go_wp2_with (first
            | (at_builtin; refine wpList_append_rowG _ rfl _ _ 27 rfl w6.heap.size 9 1 16 _ Try.underlying27 Try.info_str rfl (by decide) (.slice A8 (n0 + 1) c8) _ _ rfl hrow9 _ _ _ (M0.map str) rfl e1 HRD9.out (by simp [Value.oneCell']) (by omega) (by simp only [maxLen]; omega) hs9 ?_; intro A10 c10 w10 hrow10 hg10 hb10; obtain ⟨f1, f2⟩ := HFIN.out A10 c10 w10 hrow10; have C10 : Below w6.heap.size w9 w10 := (Below.refl _ _).grown hg10 hs9 hout; rw [f1])
            | (go_at_call 18; refine (same_calls A3 A10 c3 c10 Z Z w10 (Rd.fr (HR3.out w9 D9) (Fr.of_grown hg10) (fun a ha _ e => by have := hout _ e; have := hA3' a ha; omega)) f2 hZ4).mono ?_; rintro e w11 ⟨rfl, hb11⟩; rw [decide_eq_true rfl]))
          go_ret
          have B10 := B9.trans (C10.mono (Nat.le_trans hw6 (Nat.le_refl _)))
          exact ⟨rfl, B10.trans (hb11.mono B10.size)⟩
end Go.Proofs.Ytfegchonclhjjaa
