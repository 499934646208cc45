import Derived.Test.YtkpfendodmfeoaaTx3
namespace Go.Proofs.Ytkpfendodmfeoaa
set_option linter.unusedVariables false
set_option linter.unusedSimpArgs false
open Go.RowKit
theorem LgOf.one {l : Ents V} {s : Bs} {o o' : Option Nat} (h : LgOf l s o) (h' : LgOf l s o') : o = o' := by
  cases o with
  | none =>
    cases o' with
    | none => rfl
    | some n =>
      obtain ⟨a, ⟨q, hq, e⟩, _⟩ := h'
      exact absurd (by rw [e]; exact List.take_prefix _ _) (h q hq)
  | some n =>
    obtain ⟨a, ⟨q, hq, e⟩, b⟩ := h
    cases o' with
    | none => exact absurd (by rw [e]; exact List.take_prefix _ _) (h' q hq)
    | some n' =>
      obtain ⟨a', ⟨q', hq', e'⟩, b'⟩ := h'
      have h1 := b q' hq' (by rw [e']; exact List.take_prefix _ _)
      have h2 := b' q hq (by rw [e]; exact List.take_prefix _ _)
      rw [e', List.length_take] at h1
      rw [e, List.length_take] at h2
      congr 1
      omega
theorem LgOf.skip {l : Ents V} {s : Bs} {o : Option Nat} {q : Bs × V} (h : LgOf l s o) (hq : ¬ q.1 <+: s) : LgOf (l ++ [q]) s o := by
  cases o with
  | none =>
    intro p hp
    rcases List.mem_append.1 hp with h1 | h1
    · exact h p h1
    · rw [List.mem_singleton.1 h1]; exact hq
  | some n =>
    obtain ⟨a, ⟨z, hz, e⟩, b⟩ := h
    refine ⟨a, ⟨z, List.mem_append_left _ hz, e⟩, fun p hp hpp => ?_⟩
    rcases List.mem_append.1 hp with h1 | h1
    · exact b p h1 hpp
    · rw [List.mem_singleton.1 h1] at hpp; exact absurd hpp hq
theorem lgB_len {l : Ents V} {s : Bs} {o : Option Nat} (h : LgOf l s o) : (lgB s o).length = o.getD 0 := by
  unfold lgB
  cases o with
  | none => rfl
  | some n => rw [List.length_take]; exact Nat.min_eq_left h.1
theorem LgOf.better {l : Ents V} {s : Bs} {o : Option Nat} {q : Bs × V} (h : LgOf l s o) (hq : q.1 <+: s) (hl : (lgB s o).length ≤ q.1.length) : LgOf (l ++ [q]) s (some q.1.length) ∧ lgB s (some q.1.length) = q.1 := by
  have hp := (prefix_iff s q.1).1 hq
  have hlen := lgB_len h
  refine ⟨⟨hp.1, ⟨q, List.mem_append_right _ (List.mem_singleton.2 rfl), hp.2.symm⟩, fun p hp' hpp => ?_⟩, hp.2⟩
  rcases List.mem_append.1 hp' with h1 | h1
  · cases o with
    | none => exact absurd hpp (h p h1)
    | some n => have := h.2.2 p h1 hpp; simp at hlen; omega
  · rw [List.mem_singleton.1 h1]; exact Nat.le_refl _
theorem LgOf.worse {l : Ents V} {s : Bs} {o : Option Nat} {q : Bs × V} (h : LgOf l s o) (hl : ¬ (lgB s o).length ≤ q.1.length) : LgOf (l ++ [q]) s o := by
  have hlen := lgB_len h
  cases o with
  | none => have h0 : (lgB s none).length = 0 := hlen; omega
  | some n =>
    obtain ⟨a, ⟨z, hz, e⟩, b⟩ := h
    refine ⟨a, ⟨z, List.mem_append_left _ hz, e⟩, fun p hp hpp => ?_⟩
    rcases List.mem_append.1 hp with h1 | h1
    · exact b p h1 hpp
    · rw [List.mem_singleton.1 h1]; simp at hlen; omega
set_option maxHeartbeats 3200000 in
/-- The document's Longest. -/
theorem rLongest_calls (w : World) (B : Nat) (v : Value) (l : Ents V) (hr : PR w B v l) (hN : l.length ≤ 1073741824) (hK : KeysLe 4294967296 l) (s : ByteArray) (t : Bs) (hs : s = ⟨t.toArray⟩) (ht4 : t.length ≤ 4294967296) :
    Calls Try.prog 24 #[v, .string s] w fun e w' => ∃ o, LgOf l t o ∧ e = .returned (.tuple #[str (lgB t o), .bool o.isSome]) ∧ w = w' := by
  obtain ⟨A, c, rfl, _⟩ := hr.rd
  have HR := Lib.hid hr
  have HS := Lib.hid hs
  have HK := Lib.hid hK
  clear hr hs hK
  go_enter Try.func24, Try.ntmps24
  go_wp2
  go_loopw [6, 7, 8] (fun u6 u7 u8 wr => wr = w ∧ ∃ (j : Nat) (o : Option Nat), u8 = n64 j ∧ j ≤ l.length ∧ u6 = str (lgB t o) ∧ u7 = .bool o.isSome ∧ LgOf (l.take j) t o) (fun _ _ u8 _ => (l.length - intOf u8).toNat)
  case atStart => exact ⟨rfl, 0, none, rfl, Nat.zero_le _, rfl, rfl, fun q hq => by cases hq⟩
  case round =>
    obtain ⟨rfl, j, o, rfl, hj, rfl, rfl, hlg⟩ := hrel
    obtain ⟨sb, hsb⟩ : ∃ sb : ByteArray, sb = ⟨(lgB t o).toArray⟩ := ⟨_, rfl⟩
    have hsbz : sb.size = (lgB t o).length := by rw [hsb, str_of]
    rw [lit_of hsb]
    obtain ⟨io, hio⟩ : ∃ io, io = o.isSome := ⟨_, rfl⟩
    rw [← hio]
    have HIO := Lib.hid hio
    have HSB := Lib.hid hsb
    have HLG := Lib.hid hlg
    clear hlg hio hsb
    by_cases hlt : j < l.length
    · obtain ⟨q, hq⟩ : ∃ q, l[j]? = some q := ⟨_, List.getElem?_eq_getElem hlt⟩
      obtain ⟨g, off, rfl, c1, c2⟩ := HR.out.at hq
      have htk : l.take (j + 1) = l.take j ++ [q] := by rw [List.take_add_one, hq]; rfl
      obtain ⟨sq, hsq⟩ : ∃ sq : ByteArray, sq = ⟨q.1.toArray⟩ := ⟨_, rfl⟩
      have hsqz : sq.size = q.1.length := by rw [hsq, str_of]
      rw [lit_of hsq] at c1
      have b1 : (j : Int) < (l.length : Int) := by omega
      have hql : q.1.length ≤ 4294967296 := HK.out q (List.mem_of_getElem? hq)
      have hbg := begins_calls t q.1 s sq HS.out hsq ht4 hql
      have HTK := Lib.hid htk
      have HSQ := Lib.hid hsq
      clear htk hq hsq
      by_cases hp : q.1 <+: t
      · rw [decide_eq_true hp] at hbg
        have HBG := Lib.hid hbg
        clear hbg
        by_cases hle : (lgB t o).length ≤ q.1.length
        · obtain ⟨n1, n2⟩ := HLG.out.better hp hle
          have N1 := Lib.hid n1
          have N2 := Lib.hid n2
          have b2 : (sb.size : Int) ≤ (sq.size : Int) := by omega
          clear n1 n2
          go_wp2_with (go_at_call 38; refine (HBG.out _).mono ?_; rintro e w' ⟨rfl, rfl⟩)
          go_roundw
          case rel => exact ⟨trivial, j + 1, some q.1.length, by go_num, by omega, by rw [N2.out, lit_of HSQ.out], rfl, by rw [HTK.out]; exact N1.out⟩
          case measure => simp [intOf]; omega
        · have N1 := Lib.hid (HLG.out.worse hle)
          have b2 : ¬ (sb.size : Int) ≤ (sq.size : Int) := by omega
          go_wp2_with (go_at_call 38; refine (HBG.out _).mono ?_; rintro e w' ⟨rfl, rfl⟩)
          go_roundw
          case rel => exact ⟨trivial, j + 1, o, by go_num, by omega, by rw [lit_of HSB.out], by rw [HIO.out], by rw [HTK.out]; exact N1.out⟩
          case measure => simp [intOf]; omega
      · rw [decide_eq_false hp] at hbg
        have HBG := Lib.hid hbg
        have N1 := Lib.hid (HLG.out.skip hp)
        clear hbg
        go_wp2_with (go_at_call 38; refine (HBG.out _).mono ?_; rintro e w' ⟨rfl, rfl⟩)
        go_roundw
        case rel => exact ⟨trivial, j + 1, o, by go_num, by omega, by rw [lit_of HSB.out], by rw [HIO.out], by rw [HTK.out]; exact N1.out⟩
        case measure => simp [intOf]; omega
    · have b1 : ¬ (j : Int) < (l.length : Int) := by omega
      have hfin := HLG.out
      rw [List.take_of_length_le (by omega)] at hfin
      have HFIN := Lib.hid hfin
      clear hfin
      go_wp2
      go_ret2
      exact ⟨o, HFIN.out, by rw [lit_of HSB.out, ← HIO.out]; rfl, rfl⟩
end Go.Proofs.Ytkpfendodmfeoaa
