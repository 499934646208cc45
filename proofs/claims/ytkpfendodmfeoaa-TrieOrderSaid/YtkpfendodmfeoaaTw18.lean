import Derived.Test.YtkpfendodmfeoaaTw17
namespace Go.Proofs.Ytkpfendodmfeoaa
set_option linter.unusedVariables false
set_option linter.unusedSimpArgs false
open Go.RowKit
def lgB (s : Bs) (o : Option Nat) : Bs := s.take (o.getD 0)
set_option maxHeartbeats 3200000 in
set_option maxRecDepth 100000 in
/-- Longest. -/
theorem TLongest_calls (w : World) (tb : Nat) (l : Ents V) (fp : List Nat) (ht : Tr w tb l fp) (L : Nat) (hL : L ≤ 4294967296) (hK : KeysLe L l) (s : ByteArray) (t : Bs) (hs : s = ⟨t.toArray⟩) (hl : t.length ≤ 4294967296) :
    Calls Try.prog 23 #[.pointer (some ⟨tb, 0, none⟩), .string s] w fun e w' => ∃ o, LgOf l t o ∧ e = .returned (.tuple #[str (lgB t o), .bool o.isSome]) ∧ Dr w w' := by
  obtain ⟨x, h1, h2, rfl⟩ := ht
  obtain ⟨ra, fr, c1, c2, c3, c4⟩ := id h1
  have hc0 : w.cell? ⟨tb, 0, none⟩ = some (ptr ra) := by rw [cell_of_row w tb _ _ _ (0, 0) c1]; rfl
  have hsz : s.size = t.length := by rw [hs, str_of]
  obtain ⟨sv, qs, fk, hn, _⟩ := id c2
  have k1 := hn.cells.2.1
  have hS0 := h2.short hK
  have HG := Lib.hid h2
  have HR := Lib.hid c2
  have HS := Lib.hid hs
  have HSH := Lib.hid hS0
  have hex := fun a b => extract_eq t a b
  rw [← hs] at hex
  have HEX := Lib.hid hex
  clear hs c1 c2 c3 c4 h1 h2 hn hS0 hex hK
  go_enter Try.func23, Try.ntmps23
  go_wp2
  go_quiet (fail)
  go_wp2
  go_loopw [6, 7, 8, 9] (fun u6 u7 u8 u9 wr => ∃ (a k M : Nat) (n : Nd V) (fa : List Nat) (o : Option Nat), Dr w wr ∧ u6 = n64 (o.getD 0) ∧ u7 = .bool o.isSome ∧ u8 = n64 k ∧ u9 = ptr a ∧ RepN encV wr n a fa ∧ LgInv x.ents t o k n ∧ n.kids.Short M ∧ M ≤ 4294967296) (fun _ _ u8 _ _ => s.size - (intOf u8).toNat)
  case atStart =>
    refine ⟨ra, 0, L, x, fr, if x.is then some 0 else none, ⟨_, rfl⟩, ?_, ?_, rfl, rfl, HR.out.move fun _ _ => rfl, LgInv.start HG.out t, HSH.out, hL⟩
    · cases x.is <;> rfl
    · cases x.is <;> rfl
  case round =>
    obtain ⟨a, k, M, n, fa, o, hD, rfl, rfl, rfl, rfl, hr, hI, hS, hM⟩ := hrel
    obtain ⟨b, hb⟩ : ∃ b, b = o.getD 0 := ⟨_, rfl⟩
    have hbs : b ≤ t.length := by
      rw [hb]
      cases o with
      | none => exact Nat.zero_le _
      | some m => exact Nat.le_trans (hI.best m rfl).1 hI.le
    have i9 : (b : Int) ≤ (s.size : Int) := by omega
    have hfin : LgOf x.ents t o → ∀ (e : Ending) (w' : World), e = .returned (.tuple #[.string (s.extract 0 b), .bool o.isSome]) → Dr wr w' → ∃ o, LgOf x.ents t o ∧ e = .returned (.tuple #[str (lgB t o), .bool o.isSome]) ∧ Dr w w' := fun h e w' he hd =>
      ⟨o, h, by rw [he, HEX.out, List.drop_zero, hb]; rfl, hD.trans hd⟩
    have HFIN := Lib.hid hfin
    have HR2 := Lib.hid hr
    have HD := Lib.hid hD
    have HI := Lib.hid hI
    have HS2 := Lib.hid hS
    have HBB := Lib.hid hb
    have hwf := hI.wf
    have hkle := hI.le
    rw [← hb]
    clear hfin hr hD hI hS hb HG HR HSH
    obtain ⟨io, hio⟩ : ∃ io, io = o.isSome := ⟨_, rfl⟩
    rw [← hio] at HFIN ⊢
    have HIO := Lib.hid hio
    clear hio
    by_cases hlt : k < t.length
    · have h1 : (k : Int) < (s.size : Int) := by omega
      have h1' : k < s.size := by omega
      have hsk : (s[k]'h1').toNat = hd (t.drop k) := by
        rw [byte_at HS.out h1' (List.getElem?_eq_getElem hlt)]; exact (hd_drop hlt).symm
      have hh : hd (t.drop k) < 256 := at_lt _ 0
      have hlen : n.kids.len ≤ 4294967296 := by have := F.ord_len hwf.ord; omega
      have hbel := below_calls wr n a fa HR2.out hwf.ord (hd (t.drop k)) hh hlen
      cases hhas : n.kids.has (hd (t.drop k)) with
      | false =>
        rw [hhas] at hbel
        have HL := Lib.hid (HI.out.none_has hhas)
        have HBEL := Lib.hid hbel
        clear hbel hhas
        go_wp2_with fail
        refine HBEL.out.mono ?_
        rintro e w' ⟨rfl, rfl⟩
        clear HBEL
        go_wp2
        go_quiet (fail)
        go_wp2
        go_ret2
        exact HFIN.out HL.out _ _ rfl ⟨_, rfl⟩
      | true =>
        rw [hhas] at hbel
        obtain ⟨y, hy, hyh⟩ := F.has_nth hhas
        obtain ⟨hye, hyW⟩ := hwf.nth hy
        obtain ⟨hyl, hyS⟩ := HS2.out.nth hy
        obtain ⟨g, off, cap, a2, f2, c1, c2, hy2, hysub, hlt2⟩ := HR2.out.kid hy
        have c3 := hy2.edge
        obtain ⟨sv2, qs2, fk2, hn2, _⟩ := id hy2
        have c4 := hn2.cells.2.1
        obtain ⟨se, hse2⟩ : ∃ se : ByteArray, se = ⟨y.edge.toArray⟩ := ⟨_, rfl⟩
        have hsez : se.size = y.edge.length := by rw [hse2, str_of]
        rw [lit_of hse2] at c3
        obtain ⟨ix, hix⟩ : ∃ ix, ix = n.kids.idx (hd (t.drop k)) := ⟨_, rfl⟩
        rw [← hix] at c2 hlt2 hbel
        have i1 : (ix : Int) < (n.kids.len : Int) := by omega
        have i2 : (k : Int) ≤ (s.size : Int) := by omega
        have hx : s.extract k t.length = ⟨(t.drop k).toArray⟩ := by rw [HEX.out, List.take_length]
        have hhp := fun W => hasPrefix_calls (t.drop k) y.edge _ _ hx hse2 (by rw [List.length_drop]; omega) (by omega) W
        have HBEL := Lib.hid hbel
        have HY2 := Lib.hid hy2
        have HYS := Lib.hid hyS
        have HYW := Lib.hid hyW
        clear hbel hn2 hy2 hyS hyW hysub hse2 hx
        by_cases hp : y.edge <+: t.drop k
        · have hnx := HI.out.next hlt hy hyh hp
          have hkl := hnx.le
          have HNX := Lib.hid hnx
          have hhp2 : ∀ W, Calls Try.prog 37 #[.string (s.extract k t.length), .string se] W fun e w' => e = .returned (.bool true) ∧ W = w' := fun W => by have := hhp W; rwa [decide_eq_true hp] at this
          have HHP := Lib.hid hhp2
          have hpe := List.length_pos_iff.2 hye
          have hwr : IntKind.i64.wrap ((k : Int) + (y.edge.length : Int)) = ((k + y.edge.length : Nat) : Int) := by
            rw [show (k : Int) + (y.edge.length : Int) = ((k + y.edge.length : Nat) : Int) by omega]; exact IntWalk.i64_in _ (by omega)
          clear hhp hhp2 hnx hp hy hyh hhas hix
          go_wp2_with fail
          refine HBEL.out.mono ?_
          rintro e w' ⟨rfl, rfl⟩
          clear HBEL
          go_wp2
          go_quiet ((go_at_call 37; exact (HHP.out _).mono fun _ _ ⟨he, hm⟩ => ⟨he, _, hm.symm⟩))
          cases hyi : y.is with
          | true =>
            rw [hyi] at c4
            go_wp2
            go_roundw
            case rel => 
              refine ⟨a2, k + y.edge.length, _, y, f2, some (k + y.edge.length), HD.out.trans ⟨_, rfl⟩, by simp, rfl, ?_, rfl, HY2.out.move fun _ _ => rfl, ?_, HYS.out, by omega⟩
              · simp
              · have := HNX.out; rw [hyi] at this; exact this
            case measure => simp [intOf]; omega
          | false =>
            rw [hyi] at c4
            go_wp2
            go_roundw
            case rel => 
              refine ⟨a2, k + y.edge.length, _, y, f2, o, HD.out.trans ⟨_, rfl⟩, by rw [HBB.out], by rw [HIO.out], ?_, rfl, HY2.out.move fun _ _ => rfl, ?_, HYS.out, by omega⟩
              · simp
              · have := HNX.out; rw [hyi] at this; exact this
            case measure => simp [intOf]; omega
        · have HL := Lib.hid (HI.out.not_edge hy hyh hp)
          have hhp2 : ∀ W, Calls Try.prog 37 #[.string (s.extract k t.length), .string se] W fun e w' => e = .returned (.bool false) ∧ W = w' := fun W => by have := hhp W; rwa [decide_eq_false hp] at this
          have HHP := Lib.hid hhp2
          clear hhp hhp2 hp hy hyh hhas hix
          go_wp2_with fail
          refine HBEL.out.mono ?_
          rintro e w' ⟨rfl, rfl⟩
          clear HBEL
          go_wp2
          go_quiet ((go_at_call 37; exact (HHP.out _).mono fun _ _ ⟨he, hm⟩ => ⟨he, _, hm.symm⟩))
          go_wp2
          go_ret2
          exact HFIN.out HL.out _ _ rfl ⟨_, rfl⟩
    · have h1 : ¬ (k : Int) < (s.size : Int) := by omega
      have HL := Lib.hid (HI.out.at_end hlt)
      go_wp2
      go_ret2
      exact HFIN.out HL.out _ _ rfl ⟨0, rfl⟩
end Go.Proofs.Ytkpfendodmfeoaa
