import Derived.Test.YticaeflnpgbngaaDoorKz10
namespace Go.Proofs.YticaeflnpgbngaaDoor
set_option linter.unusedVariables false
set_option linter.unusedSimpArgs false
open Go.RowKit Go.Maps
/-! KeysTexts: plain. -/
def KeyOk (q : KeyT) : Prop := (∃ r : Nat, Utf8.valid (r : Int) = true ∧ q = sgn r) ∨ (∃ k : Nat, k ≤ 27 ∧ k ≠ 1 ∧ q = kb k) ∨ ∃ t, q = ⟨26, t⟩
theorem ko_kb {k : Nat} (h : k ≤ 27) (h1 : k ≠ 1) : KeyOk (kb k) := .inr (.inl ⟨k, h, h1, rfl⟩)
theorem ko_map {l : List Nat} (h : ∀ r ∈ l, Utf8.valid (r : Int) = true) : ∀ q ∈ l.map sgn, KeyOk q := fun q hq => by
  obtain ⟨r, hr, rfl⟩ := List.mem_map.1 hq
  exact .inl ⟨r, h r hr, rfl⟩
theorem ko_first (d : Dc) (x : UInt8) : ∀ q ∈ (firstD d x).1, KeyOk q := by
  unfold firstD
  split
  · exact ko_map (drain_val _)
  · split
    · exact ko_map (runes_val _)
    · split
      · intro q hq
        rcases List.mem_append.1 hq with e | e
        · exact ko_map (runes_val _) q e
        · rw [List.mem_singleton.1 e]; exact ko_kb (by omega) (by omega)
      · intro q hq
        rcases List.mem_append.1 hq with e | e
        · exact ko_map (runes_val _) q e
        · rw [List.mem_singleton.1 e]; exact ko_kb (low_ok x).1 (low_ok x).2
theorem ko_anew (d : Dc) (k : Nat) (hk : k ≤ 27) (hk1 : k ≠ 1) (x : UInt8) : ∀ q ∈ (anewD d k x).1, KeyOk q := by
  intro q hq
  rcases List.mem_cons.1 hq with e | e
  · rw [e]; exact ko_kb hk hk1
  · exact ko_first _ _ q e
theorem let_ok (x : UInt8) : letK x ≤ 27 ∧ letK x ≠ 1 := by
  unfold letK
  repeat' split
  all_goals (exact ⟨by decide, by decide⟩)
theorem arr_ok (x : UInt8) : arrK x ≤ 27 ∧ arrK x ≠ 1 := by
  unfold arrK
  repeat' split
  all_goals (exact ⟨by decide, by decide⟩)
theorem til_ok (s : Bs) : tilK s ≤ 27 ∧ tilK s ≠ 1 := by
  unfold tilK
  repeat' split
  all_goals (exact ⟨by decide, by decide⟩)
theorem told_ok (s : Bs) (x : UInt8) : toldK s x ≤ 27 ∧ toldK s x ≠ 1 := by
  unfold toldK
  split
  · exact til_ok s
  · split
    · exact arr_ok x
    · repeat' split
      all_goals (exact ⟨by decide, by decide⟩)
theorem ko_one {p : KeyT} (h : KeyOk p) : ∀ q ∈ [p], KeyOk q := fun q hq => by rw [List.mem_singleton.1 hq]; exact h
theorem ko_put (d : Dc) (x : UInt8) : ∀ q ∈ (putD d x).1, KeyOk q := by
  have hn : ∀ q ∈ ([] : List KeyT), KeyOk q := fun q h => by cases h
  unfold putD
  split
  · unfold behindD
    split
    · exact hn
    · split
      · exact hn
      · split
        · exact ko_anew _ _ (by decide) (by decide) _
        · exact ko_one (ko_kb (let_ok x).1 (let_ok x).2)
  · split
    · unfold seqD
      split
      · exact hn
      · split
        · exact ko_anew _ _ (by decide) (by decide) _
        · split
          · exact hn
          · split
            · exact ko_one (ko_kb (by decide) (by decide))
            · exact ko_one (ko_kb (told_ok _ x).1 (told_ok _ x).2)
    · split
      · unfold shortD
        split
        · exact ko_one (ko_kb (arr_ok x).1 (arr_ok x).2)
        · exact ko_anew _ _ (by decide) (by decide) _
      · split
        · unfold pastedD
          split
          · exact ko_one (.inr (.inr ⟨_, rfl⟩))
          · exact hn
        · exact ko_first _ _
theorem ko_feed : (b : Bs) → (d : Dc) → ∀ q ∈ (feedD d b).1, KeyOk q
  | [], d, q, h => by cases h
  | x :: b, d, q, h => by
      rw [feedD] at h
      rcases List.mem_append.1 h with e | e
      · exact ko_put _ _ q e
      · exact ko_feed b _ q e
theorem ko_tick (d : Dc) : ∀ q ∈ (tickD d).1, KeyOk q := by
  have hn : ∀ q ∈ ([] : List KeyT), KeyOk q := fun q h => by cases h
  unfold tickD
  split
  · exact hn
  · split
    · exact hn
    · split
      · exact ko_map (runes_val _)
      · split
        · exact ko_one (ko_kb (by decide) (by decide))
        · exact ko_one (ko_kb (by decide) (by decide))
/-- What the law asks of a key. -/
theorem ko_cases {q : KeyT} (h : KeyOk q) : q.k ≤ 27 ∧ ((q.k = 1 ∧ (runes q.t).length = 1 ∧ q.t.length ≤ 4) ∨ q.k = 26 ∨ (q.k ≠ 1 ∧ q.k ≠ 26 ∧ q.t = [])) := by
  rcases h with ⟨r, hv, rfl⟩ | ⟨k, hk, h1, rfl⟩ | ⟨t, rfl⟩
  · have h1 := runes_enc1 hv
    have h2 := enc_len r
    clear hv
    unfold sgn
    cases ctl (r : Int) with
    | true => rw [if_pos rfl]; exact ⟨by decide, .inr (.inr ⟨by decide, by decide, rfl⟩)⟩
    | false =>
      rw [if_neg (by decide)]
      generalize enc r = E at h1 h2
      exact ⟨by dsimp only; omega, .inl ⟨rfl, h1, h2⟩⟩
  · refine ⟨hk, ?_⟩
    by_cases h26 : k = 26
    · exact .inr (.inl h26)
    · exact .inr (.inr ⟨h1, h26, rfl⟩)
  · exact ⟨by dsimp only; omega, .inr (.inl rfl)⟩
theorem feed_ag1 (b : Bs) {d : Dc} (h : d.ag ≤ 1) : (feedD d b).2.ag ≤ 1 := by
  cases b with
  | nil => exact h
  | cons x b =>
    show (feedD (putD d x).2 b).2.ag ≤ 1
    rw [feed_ag b (put_ag d x)]
    exact Nat.zero_le _
theorem tick_len (b : Bs) (age : Nat) : (tickR b age).2.1.length ≤ b.length ∧ (age ≤ 1 → (tickR b age).2.2 ≤ 1) := by
  unfold tickR
  split
  · exact ⟨Nat.le_refl _, fun h => h⟩
  · split
    · exact ⟨Nat.le_refl _, fun _ => Nat.le_refl _⟩
    · repeat' split
      all_goals (exact ⟨Nat.zero_le _, fun _ => Nat.zero_le _⟩)
theorem tick_klen (d : Dc) {b : Bs} (h : RelD d b) : (tickD d).1.length ≤ 5 := by
  have h1 := (rel_num h).1
  have h2 := runes_length d.f
  unfold tickD
  split
  · simp
  · split
    · simp
    · split
      · simp; omega
      · split <;> simp
theorem sumV_take (l : List EvT) {k : Nat} {e : EvT} (h : l[k]? = some e) : sumV (l.take (k + 1)) = sumV (l.take k) + e.b.length := by
  rw [List.take_add_one, h, sumV_app]; simp [sumV]
theorem sumV_take_le (l : List EvT) (k : Nat) : sumV (l.take k) ≤ sumV l := by
  have := sumV_app (l.take k) (l.drop k)
  rw [List.take_append_drop] at this
  omega
/-- What a decoder has come to, behind events. -/
def StD (d : Dc) (n : Nat) : Prop := ∃ b, RelD d b ∧ b.length ≤ n ∧ d.ag ≤ 1
theorem StD.feed {d : Dc} {n : Nat} (h : StD d n) (b : Bs) : StD (feedD d b).2 (n + b.length) := by
  obtain ⟨c, h1, h2, h3⟩ := h
  obtain ⟨c', h4, h5⟩ := feed_relL b h1
  exact ⟨c', h4, by omega, feed_ag1 b h3⟩
theorem StD.tick {d : Dc} {n : Nat} (h : StD d n) : StD (tickD d).2 n := by
  obtain ⟨c, h1, h2, h3⟩ := h
  obtain ⟨_, h4, h5⟩ := tick_rel h1 h3
  obtain ⟨h6, h7⟩ := tick_len c d.ag
  exact ⟨_, h4, by omega, by rw [h5]; exact h7 h3⟩
theorem StD.mono {d : Dc} {n m : Nat} (h : StD d n) (hm : n ≤ m) : StD d m := by
  obtain ⟨c, h1, h2, h3⟩ := h
  exact ⟨c, h1, by omega, h3⟩
set_option maxRecDepth 100000 in
set_option maxHeartbeats 6400000 in
theorem KeysTexts_walk (w : World) (hU : U8 w) (A : Option Addr) (c : Nat) (l : List EvT) (hr : Rd w A (flatV l)) (hl : l.length ≤ 140737488351232) (hk : ∀ e ∈ l, OkEv w e) :
    Calls Tryd.prog 7 #[.slice A l.length c] w fun e w' => e = .returned (.bool true) ∧ Below w.heap.size w w' := by
  have AL := Lib.hid (fun (W : World) (h : Below w.heap.size w W) => al04_calls W (hU.later h))
  have FW := Lib.hid (few4_calls w A c l hr hl hk)
  have HR := Lib.hid hr
  have HK := Lib.hid hk
  have HU := Lib.hid hU
  cases hf : fewV l with
  | false =>
    rw [hf] at FW
    clear hU hr hk hf
    go_enter Tryd.func7, Tryd.ntmps7
    go_wp2_with fail
    refine FW.out.mono ?_
    rintro e w1 ⟨rfl, b1⟩
    go_wp2_with (refine (AL.out w1 b1).mono ?_; rintro e w9 ⟨rfl, b9⟩)
    go_ret
    exact ⟨rfl, b1.trans (b9.mono b1.size)⟩
  | true =>
    rw [hf] at FW
    have hfw : l.length ≤ 100 ∧ sumV l ≤ 2000 := by
      unfold fewV at hf
      rw [Bool.and_eq_true, decide_eq_true_eq, decide_eq_true_eq] at hf
      exact hf
    obtain ⟨hl1, hl2⟩ := hfw
    clear hU hr hk hf hl
    go_enter Tryd.func7, Tryd.ntmps7
    go_wp2_with fail
    refine FW.out.mono ?_
    rintro e w1 ⟨rfl, b1⟩
    have S0 := Lib.hid (Ses.new w w1 b1)
    unfold decZ at S0
    obtain ⟨db, hdb⟩ : ∃ db, db = w1.heap.size := ⟨_, rfl⟩
    have HDB := Lib.hid hdb
    rw [← hdb] at S0
    go_wp2_with fail
    rw [← hdb]
    clear hdb
    go_loopw [15] (fun u15 wr => ∃ (i : Nat) (d : Dc), u15 = n64 i ∧ i ≤ l.length ∧ Hid (StD d (sumV (l.take i))) ∧ Hid (Ses w db d wr)) (fun u15 _ => (l.length - intOf u15).toNat)
    case atStart => exact ⟨0, Dc.new, rfl, Nat.zero_le _, Lib.hid ⟨[], RelD.new, Nat.zero_le _, Nat.zero_le _⟩, S0⟩
    case round =>
      obtain ⟨i, d, rfl, hi, HD, HS⟩ := hrel
      have hbe := HS.out.below
      by_cases hlt : i < l.length
      · obtain ⟨o, ho⟩ : ∃ o, l[i]? = some o := ⟨_, List.getElem?_eq_getElem hlt⟩
        obtain ⟨g, off, rfl, c0, c1⟩ := ev_at (HR.out.later hbe) ho
        have hko := HK.out o (List.mem_of_getElem? ho)
        have hst := sumV_take l ho
        have hst2 := sumV_take_le l (i + 1)
        obtain ⟨ot, ob, oA, oc⟩ := o
        dsimp only at c0 c1 hko hst
        have hjl : (i : Int) < (l.length : Int) := by omega
        have hba := (Below.refl wr.heap.size wr).alloc (Nat.le_refl _) (.cells #[.bool ot, .slice oA ob.length oc] 33)
        have hD0 := HD.out
        obtain ⟨bb, q1, q2, q3⟩ := hD0
        have F1 := Lib.hid (sFeedK_calls HS.out hba HU.out q1 oA oc ob (Rd.later hko.1 (hbe.trans (hba.mono hbe.size))) (fun a ha hne => .inl (Rd.lt hko.1 ha (by simpa using hne))) (by omega))
        have hD1 := HD.out.feed ob
        rw [← hst] at hD1
        have hK1 := ko_feed ob d
        have hKl := feedD_len ob q1
        obtain ⟨o1, ho1⟩ : ∃ o1, o1 = feedD d ob := ⟨_, rfl⟩
        rw [← ho1] at F1 hD1 hK1 hKl
        have HD1 := Lib.hid hD1
        have HK1 := Lib.hid hK1
        have hKb : o1.1.length ≤ 10000 := by omega
        clear ho hko hst hst2 q1 q2 q3 hD1 hK1 ho1 hKl hba
        go_wp2_with fail
        refine F1.out.mono ?_
        rintro e w2 ⟨⟨v2, rfl, hv2, S2, _⟩, hk2⟩
        have hev : w2.heap[wr.heap.size]? = some (.cells #[.bool ot, .slice oA ob.length oc] 33 (0, 0)) := (hk2 wr.heap.size (Nat.le_refl _) (by simp)).trans (heap_alloc_last wr _)
        obtain ⟨e0, e1, _, _⟩ := key_cells hev
        obtain ⟨A2, c2, rfl, _⟩ := hv2.rd
        have HV2 := Lib.hid hv2
        have HS2 := Lib.hid S2
        have hsw : wr.heap.size ≤ (wr.alloc (.cells #[.bool ot, .slice oA ob.length oc] 33)).heap.size := by simp
        clear hev hv2 S2 hk2 c0 c1
        go_upto_if 23 with fail
        go_cut [6] (fun s6 wx => ∃ (K : List KeyT) (d2 : Dc) (A6 : Option Addr) (c6 : Nat), s6 = .slice A6 K.length c6 ∧ K.length ≤ 10010 ∧ Hid (RowK wx w.heap.size (.slice A6 K.length c6) K) ∧ Hid (∀ q ∈ K, KeyOk q) ∧ Hid (StD d2 (sumV (l.take (i + 1)))) ∧ Hid (Ses w db d2 wx))
        case first =>
          cases ot with
          | false =>
            go_wp2
            go_meet
            case rel =>
              exact ⟨o1.1, o1.2, A2, c2, rfl, by omega, Lib.hid (HV2.out.mono (Nat.le_trans hbe.size hsw)), HK1, HD1, HS2⟩
          | true =>
            obtain ⟨bb, q1, q2, q3⟩ := HD1.out
            have T1 := Lib.hid (sTick_calls HS2.out q1 (by omega))
            have hK2 := ko_tick o1.2
            have hKl2 := tick_klen o1.2 q1
            have hD2 := HD1.out.tick
            obtain ⟨o2, ho2⟩ : ∃ o2, o2 = tickD o1.2 := ⟨_, rfl⟩
            rw [← ho2] at T1 hK2 hKl2 hD2
            have HK2 := Lib.hid hK2
            have HD2 := Lib.hid hD2
            have hwr := hbe.size
            have HV2' := Lib.hid (HV2.out.mono (Nat.le_trans hbe.size hsw))
            clear q1 q2 q3 hK2 hD2 ho2
            go_wp2_with (first
              | (refine T1.out.mono ?_; rintro e w3 ⟨v3, rfl, hv3, S3, k3⟩; obtain ⟨A3, c3, rfl, _, _, hrd3, _⟩ := hv3.rd; have H23 := k3 _ _ _ HV2'.out; have hs3 := S3.below.size)
              | (at_builtin; refine wpList_append_row _ rfl _ _ 38 rfl w.heap.size 46 2 24 _ Tryd.underlying38 Tryd.info_key rfl (by decide) (.slice A2 o1.1.length c2) o1.1.length _ rfl H23 A3 o2.1.length c3 (flatK o2.1) rfl (flatK_len o2.1) hrd3 (keyCells_one o2.1) (by omega) (by simp only [maxLen]; omega) (by omega) ?_; intro A4 c4 w4 hrow4 hg4 hb4))
            go_meet
            case rel =>
              exact ⟨o1.1 ++ o2.1, o2.2, A4, c4, by rw [List.length_append], by rw [List.length_append]; omega, Lib.hid (rowK_app hrow4 rfl rfl |> fun h => by rw [List.length_append]; exact h), Lib.hid (fun q hq => (List.mem_append.1 hq).elim (HK1.out q) (HK2.out q)), HD2, Lib.hid (S3.grown H23 (Nat.le_refl _) hg4)⟩
        case rest =>
          obtain ⟨K, d2, A6, c6, rfl, hKL, HV6, HKO, HD2, HS4⟩ := hcut
          obtain ⟨wz, hwz⟩ : ∃ wz, wz = wc := ⟨_, rfl⟩
          rw [← hwz] at HV6 HS4 ⊢
          clear hwz F1 HD1 HK1 HV2 HS2 e0 e1
          go_wp2_with fail
          go_loopw [29] (fun u29 wx => ∃ j : Nat, u29 = n64 j ∧ j ≤ K.length ∧ Hid (Below wz.heap.size wz wx)) (fun u29 _ => (K.length - intOf u29).toNat)
          case atStart => exact ⟨0, rfl, Nat.zero_le _, Lib.hid (Below.refl _ _)⟩
          case round =>
            obtain ⟨j, rfl, hj, HBX⟩ := hrel
            have HSX := Lib.hid (HS4.out.later HBX.out)
            by_cases hjk : j < K.length
            · obtain ⟨q, hq⟩ : ∃ q, K[j]? = some q := ⟨_, List.getElem?_eq_getElem hjk⟩
              obtain ⟨g7, o7, c7, e7, x1, x2⟩ := row_key (HV6.out.below HBX.out (Nat.le_refl _)) hq
              cases e7
              obtain ⟨q1, q2⟩ := ko_cases (HKO.out q (List.mem_of_getElem? hq))
              have z1 : (j : Int) < (K.length : Int) := by omega
              obtain ⟨qk, qt⟩ := q
              dsimp only at x1 x2 q1 q2
              obtain ⟨sq, hsq⟩ : ∃ s : ByteArray, s = ⟨qt.toArray⟩ := ⟨_, rfl⟩
              rw [lit_of hsq] at x2
              have y1 : ¬ (qk : Int) < 0 := by omega
              have y2 : ¬ (27 : Int) < (qk : Int) := by omega
              have d1 : decide ((qk : Int) < 0) = false := decide_eq_false y1
              have d2' : decide ((27 : Int) < (qk : Int)) = false := decide_eq_false y2
              clear hq
              rcases q2 with ⟨r1, r2, r3⟩ | r1 | ⟨r1, r2, r3⟩
              · subst r1
                obtain ⟨cap, W2, hcv, _, hb2, _⟩ := conv_runes (wr.alloc (.cells #[.int .i64 1, .string sq] 46)) qt (by omega)
                rw [← hsq, r2] at hcv
                have hB := HBX.out.alloc HBX.out.size (.cells #[.int .i64 1, .string sq] 46)
                have x1' : wr.cell? ⟨g7, o7 + j * 2, none⟩ = some (.int .i64 1) := x1
                have HB9 := Lib.hid (hB.trans (hb2.mono hB.size))
                rw [World.size_alloc] at hcv
                obtain ⟨m0, m1, _, _⟩ := key_cells ((hb2.block wr.heap.size (by simp)).trans (heap_alloc_last wr (.cells #[.int .i64 1, .string sq] 46)))
                clear hsq r2 r3 x1 hb2 hB q1 y1 y2 d1 d2'
                go_wp2
                go_roundw
                case rel => exact ⟨j + 1, by go_num, by omega, HB9⟩
                case measure => simp [intOf]; omega
              · subst r1
                have x1' : wr.cell? ⟨g7, o7 + j * 2, none⟩ = some (.int .i64 26) := x1
                have HB9 := Lib.hid (HBX.out.alloc HBX.out.size (.cells #[.int .i64 26, .string sq] 46))
                clear hsq x1 q1 y1 y2 d1 d2'
                go_wp2
                go_roundw
                case rel => exact ⟨j + 1, by go_num, by omega, HB9⟩
                case measure => simp [intOf]; omega
              · have HB9 := Lib.hid (HBX.out.alloc HBX.out.size (.cells #[.int .i64 (qk : Int), .string sq] 46))
                have s1 : ((qk : Int) == 1) = false := by rw [beq_eq_false_iff_ne]; omega
                have s2 : ((qk : Int) == 26) = false := by rw [beq_eq_false_iff_ne]; omega
                have s3 : ¬ (qk : Int) = 1 := by omega
                have s4 : ¬ (qk : Int) = 26 := by omega
                have s5 : sq.toList.isEmpty = true := by rw [hsq, r3, ByteArray.toList_eq]; rfl
                clear hsq r1 r2 r3 q1
                go_wp2
                go_roundw
                case rel => exact ⟨j + 1, by go_num, by omega, HB9⟩
                case measure => simp [intOf]; omega
            · have z1 : ¬ (j : Int) < (K.length : Int) := by omega
              go_wp2
              go_roundw
              case rel => exact ⟨i + 1, d2, by go_num, by omega, HD2, HSX⟩
              case measure => simp [intOf]; omega
      · have z1 : ¬ (i : Int) < (l.length : Int) := by omega
        go_wp2_with (refine (AL.out wr hbe).mono ?_; rintro e w9 ⟨rfl, b9⟩)
        go_ret
        exact ⟨rfl, hbe.trans (b9.mono hbe.size)⟩
end Go.Proofs.YticaeflnpgbngaaDoor
