import Derived.Test.YtkpfendodmfeoaaTw3
namespace Go.Proofs.Ytkpfendodmfeoaa
set_option linter.unusedVariables false
set_option linter.unusedSimpArgs false
open Go.RowKit
variable {α : Type} {enc : α → Value}
theorem findF_more : ∀ (n : Nat) (s : Bs), s.length = n → ∀ (f : F α) (y : Nd α) (k : Nat), f.WF → findF f s = some (y, k) → k < y.edge.length + 1 ∧ y.kids.WF := by
  intro n
  induction n using Nat.strongRecOn with
  | _ n ih =>
    intro s hn f
    induction f with
    | nil => intro y k _ h; rw [findF] at h; cases h
    | cons e i w m k r _ ihr =>
      rintro y j ⟨h1, h2, h3, h4⟩ h
      rw [findF] at h
      split at h
      · exact ihr y j h4 h
      · split at h
        · cases h
        · split at h
          · cases h; exact ⟨by dsimp only; omega, h3⟩
          · split at h
            · split at h
              · cases h
              · rename_i hc _
                exact ih _ (by rw [List.length_drop]; have := (com_le e s).2; omega) _ rfl k y j h3 h
            · cases h
theorem findN_more {x y : Nd α} {s : Bs} {k : Nat} (hW : x.kids.WF) (h : findN x s = some (y, k)) : k < y.edge.length + 1 ∧ y.kids.WF := by
  unfold findN at h
  split at h
  · cases h; exact ⟨by omega, hW⟩
  · exact findF_more _ s rfl _ y k hW h
theorem lget_find {x : Nd α} {s : Bs} (hW : x.kids.WF) (he : x.edge = []) (hr : Rise x.ents) :
    lget x.ents s = match findN x s with | some (y, k) => if 0 < k then none else if y.is then some y.v else none | none => none := by
  rw [lget_under hr, findN_law s hW he]
  cases hf : findN x s with
  | none => rfl
  | some p =>
    obtain ⟨y, k⟩ := p
    obtain ⟨hk, hyW⟩ := findN_more hW hf
    simp only [tailN]
    by_cases h0 : 0 < k
    · rw [if_pos h0]
      have hne : y.edge.drop (y.edge.length - k) ≠ [] := List.length_pos_iff.1 (by rw [List.length_drop]; omega)
      cases hl : pre s (pre (y.edge.drop (y.edge.length - k)) y.ents) with
      | nil => rfl
      | cons q t =>
        have hm : q ∈ pre s (pre (y.edge.drop (y.edge.length - k)) y.ents) := by rw [hl]; exact List.mem_cons_self ..
        rw [pre_pre] at hm
        obtain ⟨z, _, rfl⟩ := List.mem_map.1 hm
        simp only
        rw [if_neg]
        intro e
        have := congrArg List.length e
        simp only [List.length_append] at this
        have := List.length_pos_iff.2 hne
        omega
    · have hk0 : k = 0 := by omega
      subst hk0
      rw [if_neg h0, Nat.sub_zero, List.drop_length, pre_nil]
      obtain ⟨ye, yi, yv, ym, yk⟩ := y
      cases yi with
      | true => simp [Nd.ents, own, pre]
      | false =>
        simp only [Nd.ents, own, Bool.false_eq_true, if_false, List.nil_append]
        cases hl : pre s yk.ents with
        | nil => rfl
        | cons q t =>
          have hm : q ∈ pre s yk.ents := by rw [hl]; exact List.mem_cons_self ..
          obtain ⟨z, hz, rfl⟩ := List.mem_map.1 hm
          simp only
          rw [if_neg]
          intro e
          have h1 := (F.ents_hd hyW.ord z hz).1
          have := congrArg List.length e
          simp only [List.length_append] at this
          have := List.length_pos_iff.2 h1
          omega
theorem findF_many : ∀ (n : Nat) (s : Bs), s.length = n → ∀ (f : F α) (y : Nd α) (k : Nat), f.Many → findF f s = some (y, k) → y.many = y.ents.length := by
  intro n
  induction n using Nat.strongRecOn with
  | _ n ih =>
    intro s hn f
    induction f with
    | nil => intro y k _ h; rw [findF] at h; cases h
    | cons e i w m k r _ ihr =>
      rintro y j ⟨h1, h2, h3⟩ h
      rw [findF] at h
      split at h
      · exact ihr y j h3 h
      · split at h
        · cases h
        · split at h
          · cases h; exact h1
          · split at h
            · split at h
              · cases h
              · rename_i hc _
                exact ih _ (by rw [List.length_drop]; have := (com_le e s).2; omega) _ rfl k y j h2 h
            · cases h
theorem findN_many {x y : Nd α} {s : Bs} {k : Nat} (h1 : x.many = x.ents.length) (h2 : x.kids.Many) (h : findN x s = some (y, k)) : y.many = y.ents.length := by
  unfold findN at h
  split at h
  · cases h; exact h1
  · exact findF_many _ s rfl _ y k h2 h
/-- A root, as it is between calls. -/
structure Good (z : α) (x : Nd α) : Prop where
  edge : x.edge = []
  wf : x.kids.WF
  many : x.many = x.ents.length
  kmany : x.kids.Many
  full : x.kids.Full
  zero : x.kids.Zero z
  own : x.is = false → x.v = z
theorem Good.rise {z : α} {x : Nd α} (h : Good z x) : Rise x.ents := by
  have hk := F.rise h.wf
  unfold Rise Nd.ents
  rw [List.pairwise_append]
  refine ⟨?_, hk, fun a ha b hb => ?_⟩
  · unfold Proofs.Ytkpfendodmfeoaa.own; split <;> simp
  · exact own_lt (F.ents_hd h.wf.ord b hb).1 a ha
/-- A trie in memory: its own block, and all its nodes'. -/
def TrieAt (enc : α → Value) (w : World) (tb : Nat) (x : Nd α) (fp : List Nat) : Prop :=
  ∃ ra fr, w.heap[tb]? = some (.cells #[ptr ra] 59 (0, 0)) ∧ RepN enc w x ra fr ∧ fp.Perm (tb :: fr) ∧ fp.Nodup
theorem TrieAt.move {w w' : World} {tb : Nat} {x : Nd α} {fp : List Nat} (h : TrieAt enc w tb x fp) (hm : ∀ b ∈ fp, w'.heap[b]? = w.heap[b]?) : TrieAt enc w' tb x fp := by
  obtain ⟨ra, fr, h1, h2, h3, h4⟩ := h
  exact ⟨ra, fr, (hm tb (h3.mem_iff.2 (List.mem_cons_self ..))).trans h1, h2.move fun b hb => hm b (h3.mem_iff.2 (List.mem_cons_of_mem _ hb)), h3, h4⟩
theorem TrieAt.lt {w : World} {tb : Nat} {x : Nd α} {fp : List Nat} (h : TrieAt enc w tb x fp) : ∀ b ∈ fp, b < w.heap.size := by
  obtain ⟨ra, fr, h1, h2, h3, h4⟩ := h
  intro b hb
  rcases List.mem_cons.1 (h3.mem_iff.1 hb) with e | e
  · rw [e]; exact lt_of_heap h1
  · exact h2.lt b e
theorem TrieAt.mem {w : World} {tb : Nat} {x : Nd α} {fp : List Nat} (h : TrieAt enc w tb x fp) : tb ∈ fp := by
  obtain ⟨ra, fr, h1, h2, h3, h4⟩ := h
  exact h3.mem_iff.2 (List.mem_cons_self ..)
theorem TrieAt.later {w w' : World} {tb : Nat} {x : Nd α} {fp : List Nat} (h : TrieAt enc w tb x fp) (hb : Below w.heap.size w w') : TrieAt enc w' tb x fp :=
  h.move fun b hm => hb.block b (h.lt b hm)
/-- How long keys are. -/
def KeysLe (L : Nat) (l : Ents α) : Prop := ∀ q ∈ l, q.1.length ≤ L
theorem Good.short {z : α} {x : Nd α} (h : Good z x) {L : Nat} (hL : KeysLe L x.ents) : x.kids.Short L :=
  F.short h.full fun q hq => hL q (List.mem_append_right _ hq)
theorem NdAt.lt {w : World} {a : Nat} {e : Bs} {i : Bool} {v : Value} {m : Nat} {sv : Value} (h : NdAt w a e i v m sv) : a < w.heap.size := lt_of_heap h
def zeroI : Value := .int .i64 0
def gotV (enc : α → Value) (o : Option α) : Value := match o with | some v => enc v | none => zeroI
set_option maxHeartbeats 800000 in
/-- Get. -/
theorem Get_calls {z : α} (w : World) (tb : Nat) (x : Nd α) (fp : List Nat) (ht : TrieAt enc w tb x fp) (hG : Good z x) (L : Nat) (hL : L ≤ 4294967296) (hK : KeysLe L x.ents)
    (s : ByteArray) (l : Bs) (hs : s = ⟨l.toArray⟩) (hl : l.length ≤ 4294967296) :
    Calls Try.prog 21 #[.pointer (some ⟨tb, 0, none⟩), .string s] w fun e w' => e = .returned (.tuple #[gotV enc (lget x.ents l), .bool (lget x.ents l).isSome]) ∧ Dr w w' := by
  obtain ⟨ra, fr, h1, h2, h3, h4⟩ := ht
  have hc : w.cell? ⟨tb, 0, none⟩ = some (ptr ra) := by rw [cell_of_row w tb _ _ _ (0, 0) h1]; rfl
  have hlg := lget_find (s := l) hG.wf hG.edge hG.rise
  have HLG := Lib.hid hlg
  have H2 := Lib.hid h2
  have HG := Lib.hid hG
  have HK := Lib.hid hK
  have HS := Lib.hid hs
  clear hlg h1 h2 hG hK hs
  go_enter Try.func21, Try.ntmps21
  go_wp2_with fail
  refine (find_calls w tb ra x fr hc H2.out HG.out.wf L (HG.out.short HK.out) hL s l HS.out hl).mono ?_
  rintro e w1 ⟨pv, more, rfl, hF, hD⟩
  cases hf : findN x l with
  | none =>
    rw [hf] at hF
    obtain ⟨rfl, rfl⟩ := hF
    have hno : lget x.ents l = none := by rw [HLG.out, hf]
    have HNO := Lib.hid hno
    clear hno hf
    go_wp2
    go_ret2
    exact ⟨by rw [HNO.out]; rfl, hD⟩
  | some p =>
    obtain ⟨y, k⟩ := p
    rw [hf] at hF
    obtain ⟨rfl, a, fa, rfl, hy, _⟩ := hF
    have hlg : lget x.ents l = if 0 < more then none else if y.is then some y.v else none := by rw [HLG.out, hf]
    obtain ⟨sv, qs, fk, hn, _⟩ := hy
    have hn1 : NdAt w1 a y.edge y.is (enc y.v) y.many sv := by unfold NdAt at hn ⊢; rw [hD.heap]; exact hn
    obtain ⟨k0, k1, k2, k3, k4⟩ := hn1.cells
    clear hn hn1 hf k0 k3 k4
    by_cases hm : 0 < more
    · rw [if_pos hm] at hlg
      have HNO := Lib.hid hlg
      clear hlg
      have b1 : (0 : Int) < (more : Int) := by omega
      go_wp2
      go_ret2
      exact ⟨by rw [HNO.out]; rfl, hD⟩
    · rw [if_neg hm] at hlg
      have b1 : more = 0 := by omega
      subst b1
      cases hyi : y.is with
      | true =>
        rw [hyi] at hlg k1
        have HNO := Lib.hid hlg
        clear hlg hyi
        obtain ⟨ev, hev⟩ : ∃ ev, ev = enc y.v := ⟨_, rfl⟩
        rw [← hev] at k2
        have HEV := Lib.hid hev
        clear hev
        go_wp2
        go_ret2
        exact ⟨by rw [HNO.out]; simp [gotV, HEV.out], hD⟩
      | false =>
        rw [hyi] at hlg k1
        have HNO := Lib.hid hlg
        clear hlg hyi
        go_wp2
        go_ret2
        exact ⟨by rw [HNO.out]; rfl, hD⟩
/-- Many. -/
theorem Many_calls {z : α} (w : World) (tb : Nat) (x : Nd α) (fp : List Nat) (ht : TrieAt enc w tb x fp) (hG : Good z x) (L : Nat) (hL : L ≤ 4294967296) (hK : KeysLe L x.ents)
    (s : ByteArray) (l : Bs) (hs : s = ⟨l.toArray⟩) (hl : l.length ≤ 4294967296) :
    Calls Try.prog 30 #[.pointer (some ⟨tb, 0, none⟩), .string s] w fun e w' => e = .returned (n64 (lunder x.ents l).length) ∧ Dr w w' := by
  obtain ⟨ra, fr, h1, h2, h3, h4⟩ := ht
  have hc : w.cell? ⟨tb, 0, none⟩ = some (ptr ra) := by rw [cell_of_row w tb _ _ _ (0, 0) h1]; rfl
  have hlu := findN_law l hG.wf hG.edge
  have HLU := Lib.hid hlu
  have H2 := Lib.hid h2
  have HG := Lib.hid hG
  have HK := Lib.hid hK
  have HS := Lib.hid hs
  clear hlu h1 h2 hG hK hs
  go_enter Try.func30, Try.ntmps30
  go_wp2_with fail
  refine (find_calls w tb ra x fr hc H2.out HG.out.wf L (HG.out.short HK.out) hL s l HS.out hl).mono ?_
  rintro e w1 ⟨pv, more, rfl, hF, hD⟩
  cases hf : findN x l with
  | none =>
    rw [hf] at hF
    obtain ⟨rfl, rfl⟩ := hF
    have HF := Lib.hid hf
    clear hf
    go_wp2
    go_ret
    exact ⟨by rw [HLU.out, HF.out]; rfl, hD⟩
  | some p =>
    obtain ⟨y, k⟩ := p
    rw [hf] at hF
    obtain ⟨rfl, a, fa, rfl, hy, _⟩ := hF
    have hym := findN_many HG.out.many HG.out.kmany hf
    obtain ⟨sv, qs, fk, hn, _⟩ := hy
    have hn1 : NdAt w1 a y.edge y.is (enc y.v) y.many sv := by unfold NdAt at hn ⊢; rw [hD.heap]; exact hn
    obtain ⟨k0, k1, k2, k3, k4⟩ := hn1.cells
    have HF := Lib.hid hf
    have HYM := Lib.hid hym
    clear hn hn1 hf hym k0 k1 k2 k4
    go_wp2
    go_ret
    exact ⟨by rw [HLU.out, HF.out, HYM.out]; simp [tailN, pre], hD⟩
/-- Len. -/
theorem Len_calls {z : α} (w : World) (tb : Nat) (x : Nd α) (fp : List Nat) (ht : TrieAt enc w tb x fp) (hG : Good z x) :
    Calls Try.prog 18 #[.pointer (some ⟨tb, 0, none⟩)] w fun e w' => e = .returned (n64 x.ents.length) ∧ w = w' := by
  obtain ⟨ra, fr, h1, h2, h3, h4⟩ := ht
  have hc : w.cell? ⟨tb, 0, none⟩ = some (ptr ra) := by rw [cell_of_row w tb _ _ _ (0, 0) h1]; rfl
  obtain ⟨sv, qs, fk, hn, _⟩ := h2
  have k3 := hn.cells.2.2.2.1
  rw [hG.many] at k3
  clear hn h1
  go_enter Try.func18, Try.ntmps18
  go_wp2
  go_ret
  exact ⟨rfl, rfl⟩
end Go.Proofs.Ytkpfendodmfeoaa
