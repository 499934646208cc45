import Derived.Test.YtfegchonclhjjaaWr
namespace Go.Proofs.Ytfegchonclhjjaa
open Go.RowKit
def sizeOfS : Value → Nat | .string s => s.size | _ => 0
theorem str_of (l : Bs) : (⟨l.toArray⟩ : ByteArray).size = l.length := by simp [ByteArray.size]
set_option maxRecDepth 100000 in
set_option maxHeartbeats 400000 in
theorem rCut_calls (l : Bs) (hl : l.length ≤ 4294967296) (s : ByteArray) (hs : s = ⟨l.toArray⟩) (w : World) :
    Calls Try.prog 19 #[.string s] w fun e w' => ∃ v, e = .returned v ∧ Row w' w.heap.size 9 1 v (cuts l).length ((cuts l).map str) ∧ Below w.heap.size w w' := by
  have hcl := cuts_len l
  have HS0 := Lib.hid hs
  clear hs
  go_enter Try.func19, Try.ntmps19
  go_wp2
  go_loopw [0, 3] (fun u0 u3 wr => ∃ (pos : Nat) (cs : List Bs), u0 = str (l.drop pos) ∧ Row wr w.heap.size 9 1 u3 cs.length (cs.map str) ∧ Below w.heap.size w wr ∧ CutInv l pos cs ∧ cs.length ≤ pos) (fun u0 _ _ => sizeOfS u0)
  case atStart => exact ⟨0, [], by rw [HS0.out, List.drop_zero], Row.nil _ _ _ _, Below.refl _ _, ⟨Nat.zero_le _, .inl ⟨rfl, rfl⟩⟩, Nat.le_refl _⟩
  case round =>
    obtain ⟨pos, cs, rfl, hrow, hB, hinv, hcp⟩ := hrel
    have hpl := hinv.1
    have HI := Lib.hid hinv
    clear hinv
    obtain ⟨t, ht⟩ : ∃ t, t = l.drop pos := ⟨_, rfl⟩
    have htl : t.length = l.length - pos := by rw [ht]; simp
    obtain ⟨s, hs⟩ : ∃ s : ByteArray, s = ⟨t.toArray⟩ := ⟨_, rfl⟩
    have hsz : s.size = t.length := by rw [hs, str_of]
    rw [show str (l.drop pos) = .string s from by rw [hs, ht]]
    have HT := Lib.hid ht
    have HS := Lib.hid hs
    clear ht
    by_cases hp : pos < l.length
    · have hne : t ≠ [] := List.length_pos_iff.1 (by omega)
      obtain ⟨cap, W, hcv, h1, h2, h3, h4⟩ := conv_bytes (P := Try.prog) wr _ _ _ t Try.underlying9 Try.underlying38 Try.underlying5 (by simp only [maxLen]; omega)
      rw [← hs] at hcv
      clear hs
      have hd1 := dec_pos t
      have hd2 := dec_le hne
      have hnx := nxt_ne hne
      have hex1 := extract_eq t 0 (dec t).2
      have hex2 := extract_eq t (dec t).2 s.size
      rw [← HS.out] at hex1 hex2
      rw [hsz, List.take_length] at hex2
      simp only [List.drop_zero] at hex1
      have HX1 := Lib.hid hex1
      have HX2 := Lib.hid hex2
      clear hex1 hex2
      obtain ⟨r, hr⟩ : ∃ r : Int, r = ((dec t).1 : Int) := ⟨_, rfl⟩
      obtain ⟨n, hn⟩ : ∃ n, n = (dec t).2 := ⟨_, rfl⟩
      rw [← hn] at hd1 hd2 HX1 HX2
      have HR := Lib.hid hr
      have HN := Lib.hid hn
      have i0 : (0 : Int) ≤ (n : Int) := by omega
      have i1 : (n : Int) ≤ (s.size : Int) := by omega
      have HTL := Lib.hid htl
      have htl2 : t.length ≤ 4294967296 := by omega
      clear htl hr hn
      go_wp2_with (go_at_call 28; refine (rNext_calls _ cap t W h3 htl2).mono ?_; rintro e w1 ⟨rfl, hb1⟩; rw [hnx, show i64 ((dec t).1 : Int) = .int .i64 r from by rw [HR.out], show i64 ((dec t).2 : Int) = .int .i64 n from by rw [HN.out]]; have B1 := hB.trans ((h4.trans (hb1.mono h4.size)).mono hB.size))
      have C1 : Below wr.heap.size wr w1 := h4.trans (hb1.mono h4.size)
      obtain ⟨A, c, rfl, hcn, hcm, hrd, hA⟩ := hrow.rd
      have hroww := hrow
      by_cases hz : wof r = 0 ∧ cs ≠ []
      · obtain ⟨hz1, hz2⟩ := hz
        have hlp := List.length_pos_iff.2 hz2
        obtain ⟨g, off, rfl, hgb, hgl, hcell, hfz, _⟩ := hrow.set (k := cs.length - 1) (by omega)
        obtain ⟨init, cur, rfl⟩ : ∃ init cur, cs = init ++ [cur] := ⟨cs.dropLast, cs.getLast hz2, (List.dropLast_concat_getLast hz2).symm⟩
        have hln : (init ++ [cur]).length = init.length + 1 := by simp
        simp only [hln, Nat.add_sub_cancel] at *
        have hcell' : wr.cell? ⟨g, off + init.length, none⟩ = some (str cur) := by rw [hcell]; simp
        have hc0 : (0 : Int) < ((init.length + 1 : Nat) : Int) := by omega
        have hadd : ∀ W, (Op.stringOp .add ⟨cur.toArray⟩ (s.extract 0 n)).run Try.prog W = .ok (.string (⟨cur.toArray⟩ ++ s.extract 0 n)) W := fun W => by
          rw [run_string_add_sum (P := Try.prog) W _ _ (by rw [HX1.out, str_of, str_of, List.length_take]; have := HI.out.cur_le; omega)]
        clear hcell
        go_wp2_with (go_at_call 12; refine (rOf_calls r w1).mono ?_; rintro e w2 ⟨rfl, hb2⟩; rw [hz1]; have C2 := C1.trans (hb2.mono C1.size); have hcell2 := (C2.cell (p := ⟨g, off + init.length, none⟩) hgl).trans hcell'; have hfz2 := (C2.frozen (p := ⟨g, off + init.length, none⟩) hgl).trans hfz)
        have hB2 := hB.trans (C2.mono hB.size)
        have j1 : (init.length : Int) < (init.length : Int) + 1 := by omega
        have j2 : (0 : Int) ≤ (init.length : Int) := by omega
        have j3 : (init.length : Int) + 1 - 1 = (init.length : Int) := by omega
        have j4 : IntKind.i64.wrap ((init.length : Int) + 1 - 1) = (init.length : Int) := by rw [j3]; exact IntWalk.i64_in _ (by omega)
        have j5 : IntKind.i64.wrap (init.length : Int) = (init.length : Int) := IntWalk.i64_in _ (by omega)
        have hfo : Try.prog.follows Departure.mixedOrders = true := by kernel_rfl
        have hcd : w2.drew.cell? ⟨g, off + init.length, none⟩ = some (str cur) := hcell2
        have hfd : w2.drew.frozen? ⟨g, off + init.length, none⟩ = false := hfz2
        go_region
        all_goals
          go_wp2
          go_roundw
          case rel =>
            have hst : (⟨cur.toArray⟩ : ByteArray) ++ s.extract 0 n = ⟨(cur ++ t.take n).toArray⟩ := by rw [HX1.out, ByteArray.mk_append_mk]
            have hrow2 := hrow.below C2 (Nat.le_refl _)
            obtain ⟨g', off', e', _, _, _, _, hset2⟩ := Row.set hrow2 (k := init.length) (by omega)
            cases e'
            refine ⟨pos + n, init ++ [cur ++ t.take n], by rw [HX2.out, HT.out, List.drop_drop], ?_, (hB2.setCell (p := ⟨g, off + init.length, none⟩) hgb _).drew, ?_, by simp; omega⟩
            · rw [hst]
              have := (hset2 (str (cur ++ t.take n))).at_ (w' := (w2.setCell ⟨g, off + init.length, none⟩ (str (cur ++ t.take n))).drew) (fun _ _ => rfl)
              simpa using this
            · have := HI.out.more hp (by rw [← HT.out, ← HR.out]; exact hz1)
              rw [← HT.out, ← HN.out] at this
              exact this
          case measure => rw [HX2.out]; simp only [sizeOfS, str_of, List.length_drop]; omega
      · by_cases hz1 : wof r = 0
        · have hz2 : cs = [] := Classical.byContradiction fun e => hz ⟨hz1, e⟩
          have h0 : decide ((0 : Int) < (cs.length : Int)) = false := by rw [hz2]; rfl
          have h0' : ¬ (0 : Int) < (cs.length : Int) := by rw [hz2]; simp
          have hc9 : cs.length ≤ 4294967296 := by omega
          have HZ := Lib.hid hz2
          clear hz2 hz
          go_wp2_with (first
            | (go_at_call 12; refine (rOf_calls r w1).mono ?_; rintro e w2 ⟨rfl, hb2⟩; rw [hz1]; have C2 := C1.trans (hb2.mono C1.size); have hrow2 := hrow.below C2 (Nat.le_refl _); have hB2 := hB.trans (C2.mono hB.size))
            | (at_builtin; refine wpList_append_row _ rfl _ _ 27 rfl w.heap.size 9 1 16 _ Try.underlying27 Try.info_str rfl (by decide) (.slice A cs.length c) _ _ rfl (hrow2.alloc _) _ 1 1 [.string (s.extract 0 n)] rfl rfl (Rd.new1 _ _ _) (by simp [Value.oneCell']) (by omega) (by simp only [maxLen]; omega) (by simp; have := hB2.size; omega) ?_; intro A3 c3 w3 hrow3 hg3 hb3))
          go_roundw
          case rel =>
            rw [HX1.out] at hrow3
            refine ⟨pos + n, cs ++ [t.take n], by rw [HX2.out, HT.out, List.drop_drop], by simpa using hrow3, app_below hB2 (by have := hB2.size; omega) hg3 (fun k e => (hrow2.lt _ e).1), ?_, by simp; omega⟩
            have := HI.out.new hp (.inl HZ.out)
            rw [← HT.out, ← HN.out] at this
            exact this
          case measure => rw [HX2.out]; simp only [sizeOfS, str_of, List.length_drop]; omega
        · have hz3 : (wof r == 0) = false := by simpa using hz1
          obtain ⟨z, hzz⟩ : ∃ z, z = wof r := ⟨_, rfl⟩
          rw [← hzz] at hz3
          have HZ := Lib.hid hzz
          clear hzz hz
          go_wp2_with (first
            | (go_at_call 12; refine (rOf_calls r w1).mono ?_; rintro e w2 ⟨rfl, hb2⟩; rw [← HZ.out]; have C2 := C1.trans (hb2.mono C1.size); have hrow2 := hrow.below C2 (Nat.le_refl _); have hB2 := hB.trans (C2.mono hB.size))
            | (at_builtin; refine wpList_append_row _ rfl _ _ 27 rfl w.heap.size 9 1 16 _ Try.underlying27 Try.info_str rfl (by decide) (.slice A cs.length c) _ _ rfl (hrow2.alloc _) _ 1 1 [.string (s.extract 0 n)] rfl rfl (Rd.new1 _ _ _) (by simp [Value.oneCell']) (by omega) (by simp only [maxLen]; omega) (by simp; have := hB2.size; omega) ?_; intro A3 c3 w3 hrow3 hg3 hb3))
          go_roundw
          case rel =>
            rw [HX1.out] at hrow3
            refine ⟨pos + n, cs ++ [t.take n], by rw [HX2.out, HT.out, List.drop_drop], by simpa using hrow3, app_below hB2 (by have := hB2.size; omega) hg3 (fun k e => (hrow2.lt _ e).1), ?_, by simp; omega⟩
            have := HI.out.new hp (.inr (by rw [← HT.out, ← HR.out]; exact hz1))
            rw [← HT.out, ← HN.out] at this
            exact this
          case measure => rw [HX2.out]; simp only [sizeOfS, str_of, List.length_drop]; omega
    · have hpe : pos = l.length := by omega
      have ht0 : t.length = 0 := by omega
      have hs0 : s.size = 0 := by omega
      go_wp2
      go_ret
      subst hpe
      have e := HI.out.done
      rw [e] at hrow
      exact ⟨_, rfl, hrow, hB⟩
end Go.Proofs.Ytfegchonclhjjaa
