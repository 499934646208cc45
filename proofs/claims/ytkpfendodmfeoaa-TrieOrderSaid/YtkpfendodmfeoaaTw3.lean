import Derived.Test.YtkpfendodmfeoaaTw2
namespace Go.Proofs.Ytkpfendodmfeoaa
set_option linter.unusedVariables false
set_option linter.unusedSimpArgs false
open Go.RowKit
variable {α : Type} {enc : α → Value}
theorem F.nth_ge : {f : F α} → f.Ord → {b : Nat} → (∀ n j, f.nth j = some n → b ≤ hd n.edge) → {k : Nat} → {n : Nd α} → f.nth k = some n → b + k ≤ hd n.edge
  | .nil, _, _, _, _, _, h => by simp [F.nth] at h
  | .cons e i v m kd r, _, b, hb, 0, n, h => hb n 0 h
  | .cons e i v m kd r, ⟨h1, h2, h3⟩, b, hb, k + 1, n, h => by
      have h0 : b ≤ hd e := hb ⟨e, i, v, m, kd⟩ 0 rfl
      have := F.nth_ge (f := r) h3 (b := hd e + 1) (fun n j h => h2 n j h) (k := k) h
      omega
theorem F.nth_hd {f : F α} (h : f.Ord) {k : Nat} {n : Nd α} (hn : f.nth k = some n) : k ≤ hd n.edge := by
  have := F.nth_ge h (b := 0) (fun _ _ _ => Nat.zero_le _) hn
  omega
theorem F.ord_len {f : F α} (h : f.Ord) : f.len ≤ 256 := by
  by_cases h0 : f.len ≤ 256
  · exact h0
  · obtain ⟨n, hn⟩ := F.nth_some (f := f) (k := 256) (by omega)
    have := F.nth_hd h hn
    have h2 : hd n.edge < 256 := at_lt _ 0
    omega
/-- No way down is longer than L. -/
def F.Short : Nat → F α → Prop
  | _, .nil => True
  | L, .cons e _ _ _ k r => e.length ≤ L ∧ k.Short (L - e.length) ∧ r.Short L
theorem F.short : {f : F α} → {L : Nat} → f.Full → (∀ q ∈ f.ents, q.1.length ≤ L) → f.Short L
  | .nil, _, _, _ => trivial
  | .cons e i v m k r, L, ⟨h1, h2, h3⟩, h => by
      have hne : own i v ++ k.ents ≠ [] := by
        intro h0
        obtain ⟨a, b⟩ := List.append_eq_nil_iff.1 h0
        rcases h1 with e1 | e1
        · rw [e1] at a; cases a
        · have := F.len_ents b h2
          rw [this] at e1; simp [F.len] at e1
      have hp : ∀ q ∈ own i v ++ k.ents, e.length + q.1.length ≤ L := fun q hq => by
        have := h (e ++ q.1, q.2) (by rw [F.ents]; exact List.mem_append_left _ (List.mem_map_of_mem (f := fun q => (e ++ q.1, q.2)) hq))
        simpa using this
      obtain ⟨q, hq⟩ := List.exists_mem_of_ne_nil _ hne
      refine ⟨by have := hp q hq; omega, F.short h2 fun q hq => ?_, F.short h3 fun q hq => h q (by rw [F.ents]; exact List.mem_append_right _ hq)⟩
      have := hp q (List.mem_append_right _ hq); omega
theorem F.Short.mono : {f : F α} → {L M : Nat} → L ≤ M → f.Short L → f.Short M
  | .nil, _, _, _, _ => trivial
  | .cons e i v m k r, L, M, hl, ⟨h1, h2, h3⟩ => ⟨by omega, h2.mono (by omega), h3.mono hl⟩
theorem F.Short.nth : {f : F α} → {L : Nat} → {k : Nat} → {n : Nd α} → f.Short L → f.nth k = some n → n.edge.length ≤ L ∧ n.kids.Short (L - n.edge.length)
  | .nil, _, _, _, _, h => by simp [F.nth] at h
  | .cons _ _ _ _ _ _, _, 0, _, ⟨h1, h2, _⟩, h => by simp only [F.nth] at h; cases h; exact ⟨h1, h2⟩
  | .cons _ _ _ _ _ r, _, k + 1, _, ⟨_, _, h3⟩, h => F.Short.nth (f := r) (k := k) h3 h
theorem F.WF.nth : {f : F α} → {k : Nat} → {n : Nd α} → f.WF → f.nth k = some n → n.edge ≠ [] ∧ n.kids.WF
  | .nil, _, _, _, h => by simp [F.nth] at h
  | .cons _ _ _ _ _ _, 0, _, ⟨h1, _, h3, _⟩, h => by simp only [F.nth] at h; cases h; exact ⟨h1, h3⟩
  | .cons _ _ _ _ _ r, k + 1, _, ⟨_, _, _, h4⟩, h => F.WF.nth (f := r) (k := k) h4 h
/-- A step down. -/
theorem findF_no : {f : F α} → {s : Bs} → f.has (hd s) = false → findF f s = none
  | .nil, s, _ => by rw [findF]
  | .cons e i w m k r, s, h => by
      unfold F.has at h
      rw [findF]
      split
      · rename_i hlt
        rw [if_pos hlt] at h
        exact findF_no h
      · rename_i hge
        rw [if_neg hge] at h
        rw [if_pos (of_decide_eq_false h)]
theorem findF_yes : {f : F α} → {s : Bs} → {y : Nd α} → f.nth (f.idx (hd s)) = some y → hd y.edge = hd s →
    y.edge ≠ [] → s ≠ [] → findF f s = if com y.edge s = s.length then some (y, y.edge.length - com y.edge s) else if com y.edge s < y.edge.length then none else findF y.kids (s.drop (com y.edge s))
  | .nil, s, y, h, _, _, _ => by simp [F.nth] at h
  | .cons e i w m k r, s, y, h, hy, h1, h2 => by
      unfold F.idx at h
      rw [findF]
      split
      · rename_i hlt
        rw [if_pos hlt] at h
        exact findF_yes (f := r) h hy h1 h2
      · rename_i hge
        rw [if_neg hge] at h
        simp only [F.nth] at h
        cases h
        dsimp only at hy h1 ⊢
        rw [if_neg (by simpa using hy)]
        have hc := com_pos h1 h2 hy
        split
        · rfl
        · first | rfl | rw [dif_pos hc] | rw [if_pos hc]
theorem F.has_nth {f : F α} {c : Nat} (h : f.has c = true) : ∃ y, f.nth (f.idx c) = some y ∧ hd y.edge = c := F.has_iff.1 h
/-- What find finds, in memory. -/
def FoundAt (enc : α → Value) (w : World) (o : Option (Nd α × Nat)) (fp : List Nat) (pv : Value) (more : Nat) : Prop :=
  match o with
  | none => pv = .pointer none ∧ more = 0
  | some (n, k) => more = k ∧ ∃ a fa, pv = ptr a ∧ RepN enc w n a fa ∧ ∀ b ∈ fa, b ∈ fp
theorem hd_s0 {s : ByteArray} {l : Bs} (hs : s = ⟨l.toArray⟩) (h : 0 < s.size) : (s[0]'h).toNat = hd l := by
  subst hs
  cases l with
  | nil => simp [ByteArray.size] at h
  | cons x l => rfl
/-- A node's kid, in memory. -/
theorem RepN.kid {w : World} {x : Nd α} {a : Nat} {fp : List Nat} (h : RepN enc w x a fp) {j : Nat} {y : Nd α} (hy : x.kids.nth j = some y) :
    ∃ g off cap a2 f2, w.cell? ⟨a, 4, none⟩ = some (.slice (some ⟨g, off, none⟩) x.kids.len cap) ∧ w.cell? ⟨g, off + j, none⟩ = some (ptr a2) ∧ RepN enc w y a2 f2 ∧ (∀ b ∈ f2, b ∈ fp) ∧ j < x.kids.len := by
  obtain ⟨sv, qs, fk, h1, h2, h3, h4⟩ := h
  obtain ⟨a2, f2, fo, k1, k2, k3, _⟩ := h3.nth hy
  obtain ⟨A, cap, rfl, _, _, hrd, _⟩ := h2.rd
  obtain ⟨g, off, rfl, hc⟩ := hrd j (ptr a2) (by rw [List.getElem?_map, k1]; rfl)
  exact ⟨g, off, cap, a2, f2, h1.cells.2.2.2.2, hc, k2, fun b hb => h4.mem_iff.2 (List.mem_cons_of_mem _ (List.mem_append_right _ (k3.mem_iff.2 (List.mem_append_left _ hb)))), F.nth_lt hy⟩
theorem RepN.edge {w : World} {x : Nd α} {a : Nat} {fp : List Nat} (h : RepN enc w x a fp) : w.cell? ⟨a, 0, none⟩ = some (str x.edge) := by
  obtain ⟨sv, qs, fk, h1, _⟩ := h
  exact h1.cells.1
set_option maxHeartbeats 1600000 in
set_option maxRecDepth 100000 in
theorem find_calls (w : World) (tb ra : Nat) (x : Nd α) (fp : List Nat) (ht : w.cell? ⟨tb, 0, none⟩ = some (ptr ra)) (hr : RepN enc w x ra fp) (hW : x.kids.WF) (L : Nat) (hS : x.kids.Short L) (hL : L ≤ 4294967296)
    (s : ByteArray) (l : Bs) (hs : s = ⟨l.toArray⟩) (hl : l.length ≤ 4294967296) :
    Calls Try.prog 36 #[.pointer (some ⟨tb, 0, none⟩), .string s] w fun e w' => ∃ pv more, e = .returned (.tuple #[pv, n64 more]) ∧ FoundAt enc w (findN x l) fp pv more ∧ Dr w w' := by
  have HS := Lib.hid hs
  have HR := Lib.hid hr
  have HW := Lib.hid hW
  have HSH := Lib.hid hS
  clear hs hr hW hS
  go_enter Try.func36, Try.ntmps36
  go_wp2
  go_loopw [1, 6] (fun u1 u6 wr => ∃ (nd a : Nat) (n : Nd α) (fa : List Nat) (t : Bs) (M : Nat), wr = w.drewN nd ∧ u1 = str t ∧ u6 = ptr a ∧ RepN enc w n a fa ∧ (∀ b ∈ fa, b ∈ fp) ∧ n.kids.WF ∧ n.kids.Short M ∧ M ≤ 4294967296 ∧ t.length ≤ 4294967296 ∧ findN x l = findN n t) (fun u1 _ _ => sizeOfS u1)
  case atStart => exact ⟨0, ra, x, fp, l, L, rfl, by rw [HS.out], rfl, HR.out, fun b hb => hb, HW.out, HSH.out, hL, hl, rfl⟩
  case round =>
    obtain ⟨nd, a, n, fa, t, M, rfl, rfl, rfl, hn, hsub, hnW, hnS, hM, htl, heq⟩ := hrel
    have HEQ := Lib.hid heq
    have HN := Lib.hid hn
    have HNS := Lib.hid hnS
    have HSUB := Lib.hid hsub
    clear heq hn hnS hsub
    obtain ⟨st, hst⟩ : ∃ st : ByteArray, st = ⟨t.toArray⟩ := ⟨_, rfl⟩
    have hsz : st.size = t.length := by rw [hst, str_of]
    rw [lit_of hst]
    by_cases h0 : t = []
    · have hem : st.toList.isEmpty = true := by rw [hst, h0, ByteArray.toList_eq]; rfl
      have HST := Lib.hid hst
      clear hst
      go_wp2
      go_ret2
      refine ⟨_, 0, rfl, ?_, nd, rfl⟩
      rw [HEQ.out, h0, findN, if_pos rfl]
      exact ⟨rfl, a, fa, rfl, HN.out, HSUB.out⟩
    · have hse : st.toList.isEmpty = false := str_ne hst h0
      have hpos := List.length_pos_iff.2 h0
      have h1 : (0 : Int) < (st.size : Int) := by omega
      have h1' : 0 < st.size := by omega
      have hs0 := hd_s0 hst h1'
      have HST := Lib.hid hst
      have hh : hd t < 256 := at_lt t 0
      have hlen : n.kids.len ≤ 4294967296 := by have := F.ord_len hnW.ord; omega
      have hnd : ∀ W, Dr w W → RepN enc W n a fa := fun W h => HN.out.move fun b _ => by rw [h.heap]
      have HND := Lib.hid hnd
      clear hst hnd
      cases hhas : n.kids.has (hd t) with
      | false =>
        go_wp2_with (go_at_call 31; refine (below_calls _ n a fa (HND.out _ ⟨nd, rfl⟩) hnW.ord (hd t) hh hlen).mono ?_; rintro e9 w' ⟨rfl, rfl⟩; rw [hhas])
        go_ret2
        refine ⟨_, 0, rfl, ?_, nd, rfl⟩
        rw [HEQ.out, findN, if_neg h0, findF_no hhas]
        exact ⟨rfl, rfl⟩
      | true =>
        obtain ⟨y, hy, hyh⟩ := F.has_nth hhas
        obtain ⟨hye, hyW⟩ := hnW.nth hy
        obtain ⟨hyl, hyS⟩ := HNS.out.nth hy
        obtain ⟨g, off, cap, a2, f2, c1, c2, hy2, hysub, hlt⟩ := HN.out.kid hy
        have c3 := hy2.edge
        obtain ⟨se, hse2⟩ : ∃ se : ByteArray, se = ⟨y.edge.toArray⟩ := ⟨_, rfl⟩
        have hsez : se.size = y.edge.length := by rw [hse2, str_of]
        rw [lit_of hse2] at c3
        have HSE := Lib.hid hse2
        have HY := Lib.hid (findF_yes hy hyh hye h0)
        have HYS := Lib.hid hyS
        have HY2 := Lib.hid hy2
        have HYSUB := Lib.hid hysub
        obtain ⟨ix, hix⟩ : ∃ ix, ix = n.kids.idx (hd t) := ⟨_, rfl⟩
        rw [← hix] at c2 hlt
        have HIX := Lib.hid hix
        obtain ⟨c, hc⟩ : ∃ c, c = com y.edge t := ⟨_, rfl⟩
        have hcl := com_le y.edge t
        have hcp := com_pos hye h0 hyh
        rw [← hc] at hcl hcp
        have HC := Lib.hid hc
        have i1 : (ix : Int) < (n.kids.len : Int) := by omega
        clear hse2 hyS hy2 hysub hix hc hyh hy
        by_cases hct : c = t.length
        · have e1 : ((c : Int) == (st.size : Int)) = true := by rw [hct, hsz]; simp
          have e2 : IntKind.i64.wrap ((se.size : Int) - (c : Int)) = ((y.edge.length - c : Nat) : Int) := by
            rw [hsez, show ((y.edge.length : Nat) : Int) - (c : Int) = ((y.edge.length - c : Nat) : Int) by omega]; exact IntWalk.i64_in _ (by omega)
          have HCT := Lib.hid hct
          have HSZ := Lib.hid hsz
          have HSEZ := Lib.hid hsez
          clear hct hsz hsez
          go_wp2_with (first
            | (go_at_call 31; refine (below_calls _ n a fa (HND.out _ ⟨nd, rfl⟩) hnW.ord (hd t) hh hlen).mono ?_; rintro e9 w' ⟨rfl, rfl⟩; rw [hhas, ← HIX.out])
            | (go_at_call 33; refine (common_calls y.edge t se st HSE.out HST.out (by omega) htl _).mono ?_; rintro e9 w' ⟨rfl, ⟨nd2, rfl⟩⟩; rw [← HC.out]))
          go_quiet (fail)
          go_wp2
          go_ret2
          refine ⟨ptr a2, y.edge.length - c, rfl, ?_, Dr.trans ⟨nd + nd2, rfl⟩ ⟨_, rfl⟩⟩
          rw [HEQ.out, findN, if_neg h0, HY.out, ← HC.out, if_pos HCT.out]
          exact ⟨rfl, a2, f2, rfl, HY2.out.move fun _ _ => rfl, fun b hb => HSUB.out b (HYSUB.out b hb)⟩
        · have e1 : ((c : Int) == (st.size : Int)) = false := by
            have : c ≠ st.size := by omega
            simp; omega
          have HCT := Lib.hid hct
          by_cases hcl2 : c < y.edge.length
          · have i2 : (c : Int) < (se.size : Int) := by omega
            go_wp2_with (first
              | (go_at_call 31; refine (below_calls _ n a fa (HND.out _ ⟨nd, rfl⟩) hnW.ord (hd t) hh hlen).mono ?_; rintro e9 w' ⟨rfl, rfl⟩; rw [hhas, ← HIX.out])
              | (go_at_call 33; refine (common_calls y.edge t se st HSE.out HST.out (by omega) htl _).mono ?_; rintro e9 w' ⟨rfl, ⟨nd2, rfl⟩⟩; rw [← HC.out]))
            go_ret2
            refine ⟨_, 0, rfl, ?_, nd + nd2, rfl⟩
            rw [HEQ.out, findN, if_neg h0, HY.out, ← HC.out, if_neg HCT.out, if_pos hcl2]
            exact ⟨rfl, rfl⟩
          · have i2 : ¬ (c : Int) < (se.size : Int) := by omega
            have i3 : (c : Int) ≤ (st.size : Int) := by omega
            have i4 : decide (c < se.size) = false := decide_eq_false (by omega)
            have hx := extract_eq t c t.length
            rw [← HST.out, List.take_length] at hx
            have HX := Lib.hid hx
            clear hx
            go_wp2_with (first
              | (go_at_call 31; refine (below_calls _ n a fa (HND.out _ ⟨nd, rfl⟩) hnW.ord (hd t) hh hlen).mono ?_; rintro e9 w' ⟨rfl, rfl⟩; rw [hhas, ← HIX.out])
              | (go_at_call 33; refine (common_calls y.edge t se st HSE.out HST.out (by omega) htl _).mono ?_; rintro e9 w' ⟨rfl, ⟨nd2, rfl⟩⟩; rw [← HC.out]))
            go_roundw
            case rel =>
              refine ⟨nd + nd2, a2, y, f2, t.drop c, M - y.edge.length, rfl, by rw [HX.out], rfl, HY2.out, fun b hb => HSUB.out b (HYSUB.out b hb), hyW, HYS.out, by omega, by rw [List.length_drop]; omega, ?_⟩
              rw [HEQ.out, findN, if_neg h0, HY.out, ← HC.out, if_neg HCT.out, if_neg hcl2, findN, if_neg]
              exact List.length_pos_iff.1 (by rw [List.length_drop]; have := hcl.2; omega)
            case measure => rw [HX.out]; simp only [sizeOfS, str_of, List.length_drop]; omega
end Go.Proofs.Ytkpfendodmfeoaa
