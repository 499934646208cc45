import Derived.Test.YticaeflnpgbngaaDoorKz8
namespace Go.Proofs.YticaeflnpgbngaaDoor
set_option linter.unusedVariables false
set_option linter.unusedSimpArgs false
open Go.RowKit Go.Maps
/-! KeysSigns. -/
def Good (r : Nat) : Prop := ¬ r < 32 ∧ ¬ (127 ≤ r ∧ r ≤ 159) ∧ r ≠ 65533
theorem enc_str (r : Nat) : str (enc r) = .string (Utf8.encode (r : Int)) := by unfold enc; exact enc_val _
/-- The same, and what came between is left alone. -/
theorem sFeedK_calls {w : World} {db : Nat} {d : Dc} {W1 W : World} (h : Ses w db d W1) (hW : Below W1.heap.size W1 W) (hU : U8 w) {b : Bs} (hr : RelD d b) (A : Option Addr) (c : Nat) (l : Bs) (hA : RdB W A l) (hoff : ∀ a, A = some a → l ≠ [] → a.block < w.heap.size ∨ W1.heap.size ≤ a.block) (hb : b.length + l.length ≤ 80000) :
    Calls Tryd.prog 21 #[dptr db, .slice A l.length c] W fun e W' => TellsS w db W (feedD d l) e W' ∧ ∀ k : Nat, W1.heap.size ≤ k → k < W.heap.size → W'.heap[k]? = W.heap[k]? := by
  obtain ⟨fp, h1, h2, h3⟩ := h
  have h4 := h3.trans (hW.mono h3.size)
  refine (kFeed_calls (h1.later hW) hr A c l hA (fun a ha hne hm => ?_) hb (U8.fr hU h2 h4)).mono fun e W' h => ⟨TellsS.of (h1.later hW) h2 h4 h, fun k hk1 hk2 => ?_⟩
  · have h5 := h2 _ hm
    have h6 := h1.lt _ hm
    rcases hoff a ha hne with e | e <;> omega
  · obtain ⟨v, _, _, fp', _, hf, _⟩ := h
    exact hf.block k hk2 fun e => by have := h1.lt k e; omega
theorem sign_key {w : World} {B : Nat} {v : Value} {K : List KeyT} (h : RowK w B v K) {j r : Nat} (hk : K[j]? = some ⟨1, enc r⟩) : ∃ g off c, v = .slice (some ⟨g, off, none⟩) K.length c ∧ w.cell? ⟨g, off + j * 2, none⟩ = some (.int .i64 1) ∧ w.cell? ⟨g, off + j * 2 + 1, none⟩ = some (.string (Utf8.encode (r : Int))) := by
  obtain ⟨g, off, c, e, x1, x2⟩ := row_key h hk
  have e2 := enc_str r
  generalize enc r = E at x2 e2
  dsimp only at x2
  rw [e2] at x2
  exact ⟨g, off, c, e, x1, x2⟩
set_option maxRecDepth 100000 in
set_option maxHeartbeats 6400000 in
theorem KeysSigns_walk (w : World) (hU : U8 w) (s : ByteArray) (hsz : s.size ≤ 140737488351232) :
    Calls Tryd.prog 6 #[.string s] w fun e w' => e = .returned (.bool true) ∧ Below w.heap.size w w' := by
  have AL := Lib.hid (fun (W : World) (h : Below w.heap.size w W) => al04_calls W (hU.later h))
  obtain ⟨l, rfl⟩ : ∃ l : Bs, s = ⟨l.toArray⟩ := ⟨s.data.toList, by cases s; simp⟩
  rw [str_of] at hsz
  obtain ⟨s, hs⟩ : ∃ s : ByteArray, s = ⟨l.toArray⟩ := ⟨_, rfl⟩
  have hss : s.size = l.length := by rw [hs, str_of]
  rw [← hs]
  by_cases h15 : 500 < l.length
  · have i15 : (500 : Int) < (l.length : Int) := by omega
    clear h15 hU hs
    go_enter Tryd.func6, Tryd.ntmps6
    go_wp2_with (refine (AL.out w (Below.refl _ _)).mono ?_; rintro e w1 ⟨rfl, b1⟩)
    go_ret
    exact ⟨rfl, b1⟩
  have i15 : ¬ (500 : Int) < (l.length : Int) := by omega
  have S0 := Lib.hid (Ses.new w w (Below.refl _ _))
  obtain ⟨W0, hW0⟩ : ∃ W0, W0 = w.alloc (.cells decZ 29) := ⟨_, rfl⟩
  rw [← hW0] at S0
  obtain ⟨cap, W1, hcv, hr1, hb1, hlt1⟩ := conv_runes W0 l (by omega)
  rw [← hs] at hcv
  have S1 := Lib.hid (S0.out.later hb1)
  have hszd : W0.heap.size = w.heap.size + 1 := by rw [hW0]; simp
  rw [hszd] at hcv hr1
  obtain ⟨cap2, W2, hcb, hcp, hcm, hr2, hb2⟩ := conv_bytes (P := Tryd.prog) W1 9 25 5 l Tryd.underlying9 Tryd.underlying25 Tryd.underlying5 (by simp [maxLen]; omega)
  rw [← hs] at hcb
  have hb12 := hb1.trans (hb2.mono hb1.size)
  have F1 := Lib.hid (sFeedK_calls S0.out hb12 hU RelD.new (some ⟨W1.heap.size, 0, none⟩) cap2 l hr2 (fun a ha _ => .inr (by cases ha; exact hb1.size)) (by simp; omega))
  have hrl := runes_length l
  have SL := Lib.hid (signs_law l)
  have HRS := Lib.hid hr1
  obtain ⟨rs, hrs⟩ : ∃ rs, rs = runes l := ⟨_, rfl⟩
  rw [← hrs] at hcv hrl SL HRS
  have hcv' : (convert 9 48 (.string s)).run Tryd.prog (w.alloc (.cells #[.int .i64 0, .slice none 0 0, .slice none 0 0, .int .i64 0, .string ⟨#[]⟩, .int .i64 0] 29)) = .ok (.slice (some ⟨w.heap.size + 1, 0, none⟩) rs.length cap) W1 := by rw [hW0] at hcv; exact hcv
  have hB1 := Lib.hid S1.out.below
  have hgl1 : w.heap.size + 1 < W1.heap.size := by rw [← hszd]; exact hlt1
  have HSZD := Lib.hid hszd
  clear hcv hr1 hr2 hrs hW0 h15 hs hU hszd hsz S0 hb12
  go_enter Tryd.func6, Tryd.ntmps6
  go_wp2_with fail
  go_loopw [18] (fun u18 wr => ∃ i : Nat, u18 = n64 i ∧ i ≤ rs.length ∧ Hid (∀ r ∈ rs.take i, Good r) ∧ wr = W1) (fun u18 _ => (rs.length - intOf u18).toNat)
  case atStart => exact ⟨0, rfl, Nat.zero_le _, Lib.hid (by simp), rfl⟩
  case round =>
    obtain ⟨i, rfl, hi, HG, rfl⟩ := hrel
    by_cases hlt : i < rs.length
    · obtain ⟨r, hr⟩ : ∃ r, rs[i]? = some r := ⟨_, List.getElem?_eq_getElem hlt⟩
      obtain ⟨_, _, e9, c1⟩ := HRS.out i (i32 r) (by rw [List.getElem?_map, hr]; rfl)
      cases e9
      have b1 : (i : Int) < (rs.length : Int) := by omega
      have c1' : wr.cell? ⟨w.heap.size + 1, i, none⟩ = some (.int .i32 (r : Int)) := by rw [Nat.zero_add] at c1; exact c1
      have HRR := Lib.hid hr
      obtain ⟨ri, hri⟩ : ∃ ri : Int, ri = (r : Int) := ⟨_, rfl⟩
      rw [← hri] at c1'
      have HRI := Lib.hid hri
      clear hr c1 hri
      by_cases g1 : ri < 32
      · have d1 : decide (ri < 32) = true := decide_eq_true g1
        go_wp2_with (refine (AL.out wr hB1.out).mono ?_; rintro e w9 ⟨rfl, b9⟩)
        go_ret
        exact ⟨rfl, hB1.out.trans (b9.mono hB1.out.size)⟩
      have d1 : decide (ri < 32) = false := decide_eq_false g1
      by_cases g2 : 127 ≤ ri ∧ ri ≤ 159
      · have d2 : decide (127 ≤ ri) = true := decide_eq_true g2.1
        have d3 : decide (ri ≤ 159) = true := decide_eq_true g2.2
        obtain ⟨g3, g4⟩ := g2
        go_wp2_with (refine (AL.out wr hB1.out).mono ?_; rintro e w9 ⟨rfl, b9⟩)
        go_ret
        exact ⟨rfl, hB1.out.trans (b9.mono hB1.out.size)⟩
      by_cases g5 : ri = 65533
      · subst g5
        go_wp2_with (refine (AL.out wr hB1.out).mono ?_; rintro e w9 ⟨rfl, b9⟩)
        go_ret
        exact ⟨rfl, hB1.out.trans (b9.mono hB1.out.size)⟩
      have d5 : (ri == 65533) = false := by rw [beq_eq_false_iff_ne]; exact g5
      have hgood : Good r := ⟨by have := HRI.out; omega, by have := HRI.out; omega, by have := HRI.out; omega⟩
      have HGR := Lib.hid hgood
      clear hgood
      have hnext : ∀ q ∈ rs.take (i + 1), Good q := fun q hq => by
        rw [List.take_add_one, HRR.out] at hq
        rcases List.mem_append.1 hq with e | e
        · exact HG.out q e
        · simp at e; rw [e]; exact HGR.out
      have HNX := Lib.hid hnext
      clear hnext
      by_cases g6 : 127 ≤ ri
      · have d2 : decide (127 ≤ ri) = true := decide_eq_true g6
        have g7 : ¬ ri ≤ 159 := fun e => g2 ⟨g6, e⟩
        have d3 : decide (ri ≤ 159) = false := decide_eq_false g7
        clear g2
        go_wp2
        go_roundw
        case rel => exact ⟨i + 1, by go_num, by omega, HNX, trivial⟩
        case measure => simp [intOf]; omega
      · have d2 : decide (127 ≤ ri) = false := decide_eq_false g6
        clear g2
        go_wp2
        go_roundw
        case rel => exact ⟨i + 1, by go_num, by omega, HNX, trivial⟩
        case measure => simp [intOf]; omega
    · have hi2 : i = rs.length := by omega
      have hg2 := HG.out
      rw [hi2, List.take_length] at hg2
      obtain ⟨d9, hfd, hw9⟩ := SL.out hg2
      rw [hfd] at F1
      obtain ⟨K, hK⟩ : ∃ K, K = rs.map (fun r => (⟨1, enc r⟩ : KeyT)) := ⟨_, rfl⟩
      rw [← hK] at F1
      have hKl : K.length = rs.length := by rw [hK, List.length_map]
      have hKg : ∀ j r, rs[j]? = some r → K[j]? = some (⟨1, enc r⟩ : KeyT) := fun j r h => by rw [hK, List.getElem?_map, h]; rfl
      have HKG := Lib.hid hKg
      have HKL := Lib.hid hKl
      have HW9 := Lib.hid hw9
      have z1 : ¬ (i : Int) < (rs.length : Int) := by omega
      clear hg2 hfd hw9 hK hKg hKl hi2 hlt SL
      go_wp2_with fail
      refine F1.out.mono ?_
      rintro e w3 ⟨⟨v3, rfl, hv3, S3, _⟩, hk3⟩
      have HRS3 : Rd w3 (some ⟨w.heap.size + 1, 0, none⟩) (rs.map i32) := by
        intro k u hk
        obtain ⟨g, off, e, c9⟩ := (HRS.out.later hb2) k u hk
        cases e
        refine ⟨_, _, rfl, ?_⟩
        rw [← c9]
        have h9 := hk3 (w.heap.size + 1) (by rw [HSZD.out]; exact Nat.le_refl _) (by have := hb2.size; omega)
        simp [World.cell?, h9]
      obtain ⟨A3, c3, e3, _⟩ := hv3.rd
      subst e3
      have HV3 := Lib.hid hv3
      have HB3 := Lib.hid S3.below
      have HR3 := Lib.hid HRS3
      have hn0 : ((K.length : Int) != (rs.length : Int)) = false := by rw [HKL.out]; simp
      clear hv3 HRS3 hk3
      go_wp2_with fail
      refine (sWaits_calls S3).mono ?_
      rintro e w4 ⟨rfl, rfl⟩
      rw [HW9.out]
      clear S3
      go_wp2_with fail
      go_loopw [51] (fun u51 wx => ∃ j : Nat, u51 = n64 j ∧ j ≤ K.length ∧ Hid (Below w3.heap.size w3 wx)) (fun u51 _ => (K.length - intOf u51).toNat)
      case atStart => exact ⟨0, rfl, Nat.zero_le _, Lib.hid (Below.refl _ _)⟩
      case round =>
        obtain ⟨j, rfl, hj, HBX⟩ := hrel
        have hbx := HB3.out.trans (HBX.out.mono HB3.out.size)
        by_cases hjl : j < K.length
        · obtain ⟨r, hr⟩ : ∃ r, rs[j]? = some r := ⟨_, List.getElem?_eq_getElem (by rw [← HKL.out]; exact hjl)⟩
          have hq := HKG.out j r hr
          obtain ⟨g7, o7, c7, e7, x1, x2⟩ := sign_key (HV3.out.below HBX.out (Nat.le_refl _)) hq
          cases e7
          obtain ⟨_, _, e9, c1⟩ := (HR3.out.later HBX.out) j (i32 r) (by rw [List.getElem?_map, hr]; rfl)
          cases e9
          rw [Nat.zero_add] at c1
          have c1' : wr.cell? ⟨w.heap.size + 1, j, none⟩ = some (.int .i32 (r : Int)) := c1
          have jl : j < rs.length := (List.getElem?_eq_some_iff.1 hr).1
          obtain ⟨ri, hri⟩ : ∃ ri : Int, ri = (r : Int) := ⟨_, rfl⟩
          rw [← hri] at x2 c1'
          have hba : w.heap.size + 1 < wr.heap.size := by have := hb2.size; have := HBX.out.size; have := (Rd.lt HR3.out rfl (by intro e; have h9 := congrArg List.length e; rw [List.length_map] at h9; rw [h9] at jl; simp at jl)); dsimp only at this; omega
          obtain ⟨sE, hsE⟩ : ∃ sE, sE = Utf8.encode ri := ⟨_, rfl⟩
          rw [← hsE] at x2
          have c2 : (wr.alloc (.cells #[.int .i64 1, .string sE] 46)).cell? ⟨w.heap.size + 1, j, none⟩ = some (.int .i32 ri) := (Below.cell ((Below.refl wr.heap.size wr).alloc (Nat.le_refl _) _) (p := ⟨w.heap.size + 1, j, none⟩) hba).trans c1'
          have hcvr : ∀ W, (convert 21 9 (.int .i32 ri)).run Tryd.prog W = .ok (.string sE) W := fun W => by rw [hsE, run_convert_int_string (P := Tryd.prog) W _ _ .i32 ri rfl Tryd.underlying9]
          have y1 : (j : Int) < (K.length : Int) := by omega
          have y2 : (j : Int) < (rs.length : Int) := by omega
          clear hr hq c1 hri hsE jl
          go_wp2
          go_quiet (fail)
          rename_i nq
          go_wp2
          go_roundw
          case rel =>
            have hB := HBX.out.alloc HBX.out.size (.cells #[.int .i64 1, .string sE] 46)
            exact ⟨j + 1, by go_num, by omega, Lib.hid ⟨hB.os, hB.tape, hB.output, hB.size, hB.block⟩⟩
          case measure => simp [intOf]; omega
        · have y1 : ¬ (j : Int) < (K.length : Int) := by omega
          go_wp2_with (refine (AL.out _ hbx).mono ?_; rintro e w9 ⟨rfl, b9⟩)
          go_ret
          exact ⟨rfl, hbx.trans (b9.mono hbx.size)⟩
end Go.Proofs.YticaeflnpgbngaaDoor
