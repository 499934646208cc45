import Derived.Test.YtkpfendodmfeoaaTw21
namespace Go.Proofs.Ytkpfendodmfeoaa
set_option linter.unusedVariables false
set_option linter.unusedSimpArgs false
open Go.RowKit
/-! The document's keys: a row of pairs. -/
def flat (l : Ents V) : List Value := l.flatMap fun q => [str q.1, encV q.2]
theorem flat_len (l : Ents V) : (flat l).length = l.length * 2 := by
  induction l with
  | nil => rfl
  | cons q l ih => simp only [flat, List.flatMap_cons, List.length_append, List.length_cons, List.length_nil] at ih ⊢; omega
theorem flat_append (l m : Ents V) : flat (l ++ m) = flat l ++ flat m := by simp [flat]
theorem flat_at : {l : Ents V} → {k : Nat} → {q : Bs × V} → l[k]? = some q → (flat l)[k * 2]? = some (str q.1) ∧ (flat l)[k * 2 + 1]? = some (encV q.2)
  | [], _, _, h => by simp at h
  | p :: l, 0, q, h => by simp at h; subst h; exact ⟨rfl, rfl⟩
  | p :: l, k + 1, q, h => by
      obtain ⟨a, b⟩ := flat_at (l := l) (k := k) (by simpa using h)
      have e1 : flat (p :: l) = str p.1 :: encV p.2 :: flat l := rfl
      rw [e1, show (k + 1) * 2 = k * 2 + 1 + 1 by omega]
      exact ⟨by simpa using a, by simpa using b⟩
theorem flat_one (l : Ents V) : ∀ u ∈ flat l, u.oneCell' = true := by
  intro u hu
  obtain ⟨q, _, h⟩ := List.mem_flatMap.1 hu
  rcases List.mem_cons.1 h with e | h
  · rw [e]; rfl
  · rw [List.mem_singleton.1 h]; rfl
/-- A row of pairs. -/
def PR (w : World) (B : Nat) (v : Value) (l : Ents V) : Prop := Row w B 65 2 v l.length (flat l)
theorem PR.at {w : World} {B : Nat} {A : Option Addr} {n c : Nat} {l : Ents V} (h : PR w B (.slice A n c) l) {k : Nat} {q : Bs × V} (hq : l[k]? = some q) : ∃ g off, A = some ⟨g, off, none⟩ ∧ w.cell? ⟨g, off + k * 2, none⟩ = some (str q.1) ∧ w.cell? ⟨g, off + k * 2 + 1, none⟩ = some (encV q.2) := by
  obtain ⟨a, b⟩ := flat_at hq
  obtain ⟨A', c', e, _, _, hrd, _⟩ := h.rd
  cases e
  obtain ⟨g, off, rfl, h1⟩ := hrd _ _ a
  obtain ⟨g', off', e2, h2⟩ := hrd _ _ b
  cases e2
  exact ⟨g, off, rfl, h1, by rw [Nat.add_assoc]; exact h2⟩
theorem Try.info_pair : (Try.prog.info? 65).map (fun i => (i.zero, i.size, i.bytes)) = some (some (.agg #[(.string ⟨#[]⟩), (.int .i64 0)]), 2, 24) := by kernel_rfl
theorem begins_calls (a b : Bs) (s t : ByteArray) (hs : s = ⟨a.toArray⟩) (ht : t = ⟨b.toArray⟩) (ha : a.length ≤ 4294967296) (hb : b.length ≤ 4294967296) (w : World) :
    Calls Try.prog 38 #[.string s, .string t] w fun e w' => e = .returned (.bool (decide (b <+: a))) ∧ w = w' := by
  have hsz : s.size = a.length := by rw [hs, str_of]
  have htz : t.size = b.length := by rw [ht, str_of]
  have hx := extract_eq a 0 b.length
  rw [← hs, List.drop_zero] at hx
  by_cases hl : b.length ≤ a.length
  · have i1 : (t.size : Int) ≤ (s.size : Int) := by omega
    have hbe : ((s.extract 0 b.length).toList == t.toList) = decide (b <+: a) := by
      rw [hx, ht, str_beq rfl rfl, Bool.eq_iff_iff]
      simp [prefix_iff, hl]
    have HB := Lib.hid hbe
    have HS := Lib.hid hs
    have HT := Lib.hid ht
    clear hs ht hx hbe
    go_enter Try.func38, Try.ntmps38
    go_wp2
    go_ret
    exact ⟨by rw [← HB.out]; rfl, rfl⟩
  · have i1 : ¬ (t.size : Int) ≤ (s.size : Int) := by omega
    have hbe : decide (b <+: a) = false := decide_eq_false fun h => hl ((prefix_iff a b).1 h).1
    have HB := Lib.hid hbe
    have HS := Lib.hid hs
    have HT := Lib.hid ht
    clear hs ht hx hbe
    go_enter Try.func38, Try.ntmps38
    go_wp2
    go_ret
    exact ⟨by rw [HB.out]; rfl, rfl⟩
set_option maxHeartbeats 1600000 in
/-- The document's Get. -/
theorem rGet_calls (w : World) (B : Nat) (v : Value) (l : Ents V) (hr : PR w B v l) (hN : l.length ≤ 1073741824) (s : ByteArray) (k : Bs) (hs : s = ⟨k.toArray⟩) :
    Calls Try.prog 22 #[v, .string s] w fun e w' => e = .returned (.tuple #[gotV encV (lget l k), .bool (lget l k).isSome]) ∧ w = w' := by
  obtain ⟨A, c, rfl, _⟩ := hr.rd
  have HR := Lib.hid hr
  have HS := Lib.hid hs
  clear hr hs
  go_enter Try.func22, Try.ntmps22
  go_wp2
  go_loopw [6] (fun u6 wr => wr = w ∧ ∃ j : Nat, u6 = n64 j ∧ j ≤ l.length ∧ lget l k = lget (l.drop j) k) (fun u6 _ => (l.length - intOf u6).toNat)
  case atStart => exact ⟨rfl, 0, rfl, Nat.zero_le _, rfl⟩
  case round =>
    obtain ⟨rfl, j, rfl, hj, hlg⟩ := hrel
    have HLG := Lib.hid hlg
    clear hlg
    by_cases hlt : j < l.length
    · obtain ⟨q, hq⟩ : ∃ q, l[j]? = some q := ⟨_, List.getElem?_eq_getElem hlt⟩
      obtain ⟨g, off, rfl, c1, c2⟩ := HR.out.at hq
      have hdr : l.drop j = q :: l.drop (j + 1) := by
        rw [List.drop_eq_getElem_cons hlt]
        rw [List.getElem?_eq_getElem hlt] at hq
        cases hq; rfl
      obtain ⟨sq, hsq⟩ : ∃ sq : ByteArray, sq = ⟨q.1.toArray⟩ := ⟨_, rfl⟩
      rw [lit_of hsq] at c1
      have hbe : (sq.toList == s.toList) = decide (q.1 = k) := str_beq hsq HS.out
      have b1 : (j : Int) < (l.length : Int) := by omega
      have HDR := Lib.hid hdr
      clear hdr hq hsq
      by_cases hk : q.1 = k
      · rw [decide_eq_true hk] at hbe
        go_wp2
        go_ret2
        refine ⟨?_, rfl⟩
        rw [HLG.out, HDR.out, lget, if_pos hk]; rfl
      · rw [decide_eq_false hk] at hbe
        go_wp2
        go_roundw
        case rel => exact ⟨trivial, j + 1, by go_num, by omega, by rw [HLG.out, HDR.out, lget, if_neg hk]⟩
        case measure => simp [intOf]; omega
    · have b1 : ¬ (j : Int) < (l.length : Int) := by omega
      go_wp2
      go_ret2
      refine ⟨?_, rfl⟩
      rw [HLG.out, List.drop_of_length_le (by omega)]; rfl
theorem PR.nil (w : World) (B : Nat) : PR w B (.slice none 0 0) [] := Row.nil _ _ _ _
theorem Rd.newRow (w : World) (cs : Array Value) (e : TypeId) : Rd (w.alloc (.cells cs e)) (some ⟨w.heap.size, 0, none⟩) cs.toList := by
  intro i u h
  refine ⟨w.heap.size, 0, rfl, ?_⟩
  rw [cell_of_row _ _ _ _ _ (0, 0) (heap_alloc_new w (.cells cs e)), Nat.zero_add, ← Array.getElem?_toList]
  exact h
/-- One pair more. -/
theorem PR.more {w wr w' : World} {u v' : Value} {m : Ents V} {q : Bs × V} {o : Obj} (hm : PR wr w.heap.size u m) (hb : Below w.heap.size w wr) (hrow : Row w' w.heap.size 65 2 v' (m.length + 1) (flat m ++ [str q.1, encV q.2])) (hg : (wr.alloc o).grownBy w' u.ownBlock) :
    PR w' w.heap.size v' (m ++ [q]) ∧ Below w.heap.size w w' := by
  refine ⟨?_, (hb.alloc hb.size _).grown hg (by simp; have := hb.size; omega) fun k e => (Row.lt hm k e).1⟩
  unfold PR
  rw [List.length_append, flat_append]
  exact hrow
set_option maxHeartbeats 1600000 in
/-- The document's Drop. -/
theorem rDrop_calls (w : World) (B : Nat) (v : Value) (l : Ents V) (hr : PR w B v l) (hN : l.length ≤ 1073741824) (s : ByteArray) (k : Bs) (hs : s = ⟨k.toArray⟩) :
    Calls Try.prog 29 #[v, .string s] w fun e w' => ∃ v', e = .returned v' ∧ PR w' w.heap.size v' (ldrop l k) ∧ Below w.heap.size w w' := by
  obtain ⟨A, c, rfl, _⟩ := hr.rd
  have hblk : ∀ g, (Value.slice A l.length c).ownBlock = some g → g < w.heap.size := fun g hg => (Row.lt hr g hg).2
  have HR := Lib.hid hr
  have HS := Lib.hid hs
  clear hr hs
  go_enter Try.func29, Try.ntmps29
  go_wp2
  go_loopw [5, 6] (fun u5 u6 wr => ∃ (j : Nat) (m : Ents V), u6 = n64 j ∧ j ≤ l.length ∧ PR wr w.heap.size u5 m ∧ m = ldrop (l.take j) k ∧ Below w.heap.size w wr) (fun _ u6 _ => (l.length - intOf u6).toNat)
  case atStart => exact ⟨0, [], rfl, Nat.zero_le _, PR.nil _ _, rfl, Below.refl _ _⟩
  case round =>
    obtain ⟨j, m, rfl, hj, hm, hml, hb⟩ := hrel
    have HML := Lib.hid hml
    clear hml
    have hRw : PR wr B (.slice A l.length c) l := Row.at_ HR.out fun g hg => hb.block g (hblk g hg)
    by_cases hlt : j < l.length
    · obtain ⟨q, hq⟩ : ∃ q, l[j]? = some q := ⟨_, List.getElem?_eq_getElem hlt⟩
      obtain ⟨g, off, rfl, c1, c2⟩ := hRw.at hq
      have htk : l.take (j + 1) = l.take j ++ [q] := by rw [List.take_add_one, hq]; rfl
      have hld : ldrop (l.take (j + 1)) k = ldrop (l.take j) k ++ (if q.1 = k then [] else [q]) := by
        rw [htk, ldrop_append]
        unfold ldrop
        congr 1
        by_cases h : q.1 = k <;> simp [h]
      obtain ⟨sq, hsq⟩ : ∃ sq : ByteArray, sq = ⟨q.1.toArray⟩ := ⟨_, rfl⟩
      have hbe : (sq.toList == s.toList) = decide (q.1 = k) := str_beq hsq HS.out
      have hlit := lit_of hsq
      rw [hlit] at c1
      have b1 : (j : Int) < (l.length : Int) := by omega
      have HLD := Lib.hid hld
      have hmj : m.length ≤ l.length := by
        rw [HML.out]
        exact Nat.le_trans (List.length_filter_le _ _) (by rw [List.length_take]; omega)
      have HB := Lib.hid hb
      have HM := Lib.hid hm
      have HQ := Lib.hid hsq
      have hbs := hb.size
      clear hld hq hsq htk hb hRw
      by_cases hk : q.1 = k
      · rw [decide_eq_true hk] at hbe
        have HLD2 : ldrop (l.take (j + 1)) k = ldrop (l.take j) k := by rw [HLD.out, if_pos hk, List.append_nil]
        have HLD2 := Lib.hid HLD2
        clear hm
        go_wp2
        go_roundw
        case rel => exact ⟨j + 1, m, by go_num, by omega, HM.out, by rw [HLD2.out, HML.out], HB.out⟩
        case measure => simp [intOf]; omega
      · rw [decide_eq_false hk] at hbe
        have HLD2 : ldrop (l.take (j + 1)) k = ldrop (l.take j) k ++ [q] := by rw [HLD.out, if_neg hk]
        have HLD2 := Lib.hid HLD2
        have hlm : PR wr w.heap.size u5 m := hm
        clear hm
        go_wp2_with (at_builtin; refine wpList_append_row _ rfl _ _ 26 rfl w.heap.size 65 2 24 _ Try.underlying26 Try.info_pair rfl (by decide) _ _ _ rfl (Row.alloc HM.out _) (some ⟨wr.heap.size, 0, none⟩) 1 1 [.string sq, .int .i64 q.2] rfl rfl (by have := Rd.newRow wr #[.string sq, encV q.2] 65; exact this) (by intro u hu; simp at hu; rcases hu with rfl | rfl <;> rfl) (by omega) (by simp only [maxLen]; omega) (by simp; omega) ?_; intro A' c' w' hrow hg hob)
        rw [← hlit] at hrow
        obtain ⟨p1, p2⟩ := PR.more HM.out HB.out hrow hg
        go_roundw
        case rel => exact ⟨j + 1, m ++ [q], by go_num, by omega, p1, by rw [HLD2.out, HML.out], p2⟩
        case measure => simp [intOf]; omega
    · have b1 : ¬ (j : Int) < (l.length : Int) := by omega
      have hjl : j = l.length := by omega
      subst hjl
      have HB := Lib.hid hb
      have HM := Lib.hid hm
      clear hb hm
      go_wp2
      go_ret
      refine ⟨_, rfl, ?_, HB.out⟩
      have := HML.out
      rw [List.take_length] at this
      rw [← this]; exact HM.out
end Go.Proofs.Ytkpfendodmfeoaa
