import Derived.Test.YtkpfendodmfeoaaTw13
namespace Go.Proofs.Ytkpfendodmfeoaa
set_option linter.unusedVariables false
set_option linter.unusedSimpArgs false
open Go.RowKit
theorem lput_own_nil {i : Bool} {w v : V} {k : F V} (hk : k.Ord) : lput (own i w ++ k.ents) [] v = own true v ++ k.ents := by
  have hk0 : ∀ q ∈ k.ents, ltB [] q.1 = true := fun q hq => ltB_nil (F.ents_hd hk q hq).1
  rw [lput_left _ _ _ _ hk0]
  cases i <;> rfl
theorem lput_own {i : Bool} {w v : V} {l : Ents V} {s : Bs} (hs : s ≠ []) : lput (own i w ++ l) s v = own i w ++ lput l s v := lput_right _ _ _ _ (own_lt hs)
theorem lget_own_nil {i : Bool} {w : V} {k : F V} (hk : k.Ord) : lget (own i w ++ k.ents) [] = if i then some w else none := by
  rw [lget_append, lget_none (l := k.ents) fun q hq => (F.ents_hd hk q hq).1, Option.or_none]
  cases i <;> rfl
theorem putN_ents {x : Nd V} (hG : Good zeroV x) (had : Bool) (s : Bs) (v : V) : (putN zeroV had x s v).ents = lput x.ents s v := by
  unfold putN
  split
  · rename_i h
    subst h
    unfold Nd.ents
    rw [lput_own_nil hG.wf.ord]
  · rename_i h
    unfold Nd.ents
    rw [lput_own h, putF_ents zeroV had v _ s rfl h x.kids hG.wf]
theorem Good.put {x : Nd V} (hG : Good zeroV x) (s : Bs) (v : V) : Good zeroV (putN zeroV (lget x.ents s).isSome x s v) := by
  have he := putN_ents hG (lget x.ents s).isSome s v
  have hl := lput_len x.ents s v hG.rise
  refine ⟨?_, ?_, ?_, ?_, ?_, ?_, ?_⟩
  · unfold putN; split <;> exact hG.edge
  · unfold putN; split
    · exact hG.wf
    · rename_i h; exact putF_wf zeroV _ v _ s rfl h x.kids hG.wf
  · rw [he, hl, ← hG.many]
    unfold putN
    cases (lget x.ents s).isSome <;> split <;> rfl
  · unfold putN; split
    · exact hG.kmany
    · rename_i h
      unfold Nd.ents
      rw [lget_own h]
      exact putF_many zeroV v _ s rfl h x.kids hG.wf hG.kmany
  · unfold putN; split
    · exact hG.full
    · rename_i h; exact putF_full zeroV _ v _ s rfl h x.kids hG.wf hG.full
  · unfold putN; split
    · exact hG.zero
    · rename_i h; exact putF_zero zeroV _ v _ s rfl h x.kids hG.zero
  · unfold putN; split
    · intro h; cases h
    · exact hG.own
theorem dropN_ents {x : Nd V} (hG : Good zeroV x) {s : Bs} {u : V} (hg : lget x.ents s = some u) : (dropN zeroV x s).ents = ldrop x.ents s ∧ Good zeroV (dropN zeroV x s) := by
  have hlen := ldrop_len hG.rise hg
  by_cases h : s = []
  · subst h
    have e1 : (dropN zeroV x []).ents = ldrop x.ents [] := by
      unfold dropN Nd.ents
      rw [if_pos rfl, ldrop_own (z := zeroV) hG.wf.ord]
    refine ⟨e1, ?_⟩
    refine ⟨?_, ?_, ?_, ?_, ?_, ?_, ?_⟩
    · unfold dropN; exact hG.edge
    · unfold dropN; exact hG.wf
    · rw [e1, hlen, ← hG.many]; unfold dropN; rw [if_pos rfl]
    · unfold dropN; exact hG.kmany
    · unfold dropN; exact hG.full
    · unfold dropN; exact hG.zero
    · unfold dropN; exact fun _ => rfl
  · have hg2 : lget x.kids.ents s = some u := by unfold Nd.ents at hg; rwa [lget_own h] at hg
    obtain ⟨a, b, c, d, e⟩ := dropF_all zeroV _ s rfl h x.kids u hG.wf hG.kmany hg2
    have e1 : (dropN zeroV x s).ents = ldrop x.ents s := by
      unfold dropN Nd.ents
      rw [if_neg h]
      dsimp only
      rw [a, ldrop_own2 h]
    refine ⟨e1, ?_, ?_, ?_, ?_, ?_, ?_, ?_⟩
    · unfold dropN; rw [if_neg h]; exact hG.edge
    · unfold dropN; rw [if_neg h]; exact b
    · rw [e1, hlen, ← hG.many]; unfold dropN; rw [if_neg h]
    · unfold dropN; rw [if_neg h]; exact c
    · unfold dropN; rw [if_neg h]; exact d hG.full
    · unfold dropN; rw [if_neg h]; exact e hG.zero
    · unfold dropN; rw [if_neg h]; exact hG.own
theorem lget_of_mem {l : Ents V} (hr : Rise l) {k : Bs} {v : V} (h : (k, v) ∈ l) : lget l k = some v := by
  induction l with
  | nil => cases h
  | cons q l ih =>
    obtain ⟨r1, r2⟩ := List.pairwise_cons.1 hr
    rcases List.mem_cons.1 h with e | h
    · rw [← e]; simp [lget]
    · have hlt := r1 _ h
      have hne : q.1 ≠ k := fun e => by rw [e, ltB_irr] at hlt; cases hlt
      simp only [lget, if_neg hne]
      exact ih r2 h
/-- A trie, told by what it holds. -/
def Tr (w : World) (tb : Nat) (l : Ents V) (fp : List Nat) : Prop := ∃ x, TrieAt encV w tb x fp ∧ Good zeroV x ∧ x.ents = l
/-- What a call leaves of a trie. -/
def TrPost (w : World) (tb : Nat) (l : Ents V) (fp : List Nat) (w' : World) : Prop := ∃ fp', Tr w' tb l fp' ∧ (∀ b ∈ fp', b ∈ fp ∨ w.heap.size ≤ b) ∧ Fr (fun b => b ∈ fp) w w'
theorem Tr.move {w w' : World} {tb : Nat} {l : Ents V} {fp : List Nat} (h : Tr w tb l fp) (hm : ∀ b ∈ fp, w'.heap[b]? = w.heap[b]?) : Tr w' tb l fp := by
  obtain ⟨x, h1, h2, h3⟩ := h
  exact ⟨x, h1.move hm, h2, h3⟩
theorem Tr.dr {w w' : World} {tb : Nat} {l : Ents V} {fp : List Nat} (h : Tr w tb l fp) (hd : Dr w w') : Tr w' tb l fp := h.move fun b _ => by rw [hd.heap]
theorem Tr.lt {w : World} {tb : Nat} {l : Ents V} {fp : List Nat} (h : Tr w tb l fp) : ∀ b ∈ fp, b < w.heap.size := by
  obtain ⟨x, h1, h2, h3⟩ := h
  exact h1.lt
theorem Tr.rise {w : World} {tb : Nat} {l : Ents V} {fp : List Nat} (h : Tr w tb l fp) : Rise l := by
  obtain ⟨x, h1, h2, rfl⟩ := h
  exact h2.rise
theorem TNew_calls (w : World) :
    Calls Try.prog 11 #[] w fun e w' => ∃ tb fp, e = .returned (.pointer (some ⟨tb, 0, none⟩)) ∧ Tr w' tb [] fp ∧ (∀ b ∈ fp, w.heap.size ≤ b) ∧ Below w.heap.size w w' :=
  (New_calls w).mono fun e w' ⟨tb, fp, h1, h2, h3, h4⟩ => ⟨tb, fp, h1, ⟨_, h2, newN_good, rfl⟩, h3, h4⟩
theorem TGet_calls (w : World) (tb : Nat) (l : Ents V) (fp : List Nat) (ht : Tr w tb l fp) (L : Nat) (hL : L ≤ 4294967296) (hK : KeysLe L l) (s : ByteArray) (k : Bs) (hs : s = ⟨k.toArray⟩) (hl : k.length ≤ 4294967296) :
    Calls Try.prog 21 #[.pointer (some ⟨tb, 0, none⟩), .string s] w fun e w' => e = .returned (.tuple #[gotV encV (lget l k), .bool (lget l k).isSome]) ∧ Dr w w' := by
  obtain ⟨x, h1, h2, rfl⟩ := ht
  exact Get_calls w tb x fp h1 h2 L hL hK s k hs hl
theorem TMany_calls (w : World) (tb : Nat) (l : Ents V) (fp : List Nat) (ht : Tr w tb l fp) (L : Nat) (hL : L ≤ 4294967296) (hK : KeysLe L l) (s : ByteArray) (k : Bs) (hs : s = ⟨k.toArray⟩) (hl : k.length ≤ 4294967296) :
    Calls Try.prog 30 #[.pointer (some ⟨tb, 0, none⟩), .string s] w fun e w' => e = .returned (n64 (lunder l k).length) ∧ Dr w w' := by
  obtain ⟨x, h1, h2, rfl⟩ := ht
  exact Many_calls w tb x fp h1 h2 L hL hK s k hs hl
theorem TLen_calls (w : World) (tb : Nat) (l : Ents V) (fp : List Nat) (ht : Tr w tb l fp) :
    Calls Try.prog 18 #[.pointer (some ⟨tb, 0, none⟩)] w fun e w' => e = .returned (n64 l.length) ∧ w = w' := by
  obtain ⟨x, h1, h2, rfl⟩ := ht
  exact Len_calls w tb x fp h1 h2
theorem TPut_calls (w : World) (tb : Nat) (l : Ents V) (fp : List Nat) (ht : Tr w tb l fp) (L : Nat) (hL : L ≤ 4294967296) (hK : KeysLe L l) (hN : l.length ≤ 4294967296) (s : ByteArray) (k : Bs) (hs : s = ⟨k.toArray⟩) (hl : k.length ≤ 4294967296) (v : V) :
    Calls Try.prog 12 #[.pointer (some ⟨tb, 0, none⟩), .string s, encV v] w fun e w' => e = .returned (.bool (!(lget l k).isSome)) ∧ TrPost w tb (lput l k v) fp w' := by
  obtain ⟨x, h1, h2, rfl⟩ := ht
  exact (Put_calls w tb x fp h1 h2 L hL hK hN s k hs hl v).mono fun e w' ⟨a, fp', b, c, d⟩ => ⟨a, fp', ⟨_, b, h2.put k v, putN_ents h2 _ k v⟩, c, d⟩
set_option maxHeartbeats 800000 in
/-- Drop. -/
theorem TDrop_calls (w : World) (tb : Nat) (l : Ents V) (fp : List Nat) (ht : Tr w tb l fp) (L : Nat) (hL : L ≤ 4294967296) (hK : KeysLe L l) (hN : l.length ≤ 4294967296) (s : ByteArray) (k : Bs) (hs : s = ⟨k.toArray⟩) (hl : k.length ≤ 4294967296) :
    Calls Try.prog 25 #[.pointer (some ⟨tb, 0, none⟩), .string s] w fun e w' => e = .returned (.bool (lget l k).isSome) ∧ TrPost w tb (ldrop l k) fp w' := by
  have HG := Lib.hid (TGet_calls w tb l fp ht L hL hK s k hs hl)
  have HT := Lib.hid ht
  have HK := Lib.hid hK
  have HS := Lib.hid hs
  obtain ⟨x, h1, h2, rfl⟩ := ht
  obtain ⟨ra, fr, c1, c2, c3, c4⟩ := id h1
  have hc0 : w.cell? ⟨tb, 0, none⟩ = some (ptr ra) := by rw [cell_of_row w tb _ _ _ (0, 0) c1]; rfl
  have H1 := Lib.hid h1
  have H2 := Lib.hid h2
  have C1 := Lib.hid c1
  have C2 := Lib.hid c2
  have C3 := Lib.hid c3
  have C4 := Lib.hid c4
  clear hs hK h1 h2 c1 c2 c3 c4
  go_enter Try.func25, Try.ntmps25
  go_wp2_with fail
  refine HG.out.mono ?_
  rintro e w1 ⟨rfl, nd, rfl⟩
  clear HG
  cases hg : lget x.ents k with
  | none =>
    have HGG := Lib.hid hg
    clear hg
    go_wp2
    go_ret
    refine ⟨by rw [HGG.out]; rfl, fp, ?_, fun b hb => .inl hb, ⟨rfl, rfl, rfl, Nat.le_refl _, fun _ _ _ => rfl⟩⟩
    have : ldrop x.ents k = x.ents := ldrop_none fun q hq e => by
      have hno := HGG.out
      have hr := H2.out.rise
      have hmem : (k, q.2) ∈ x.ents := by rw [← e]; exact hq
      rw [lget_of_mem hr hmem] at hno; cases hno
    rw [this]
    exact HT.out.move fun _ _ => rfl
  | some u =>
    have HGG := Lib.hid hg
    clear hg
    have hnd := C3.out.nodup_iff.1 C4.out
    rw [List.nodup_cons] at hnd
    have hdr := drop_calls _ k rfl hl s HS.out (w.drewN nd) ra x fr L u (C2.out.move fun _ _ => rfl) hnd.2 H2.out.wf (H2.out.short HK.out) hL H2.out.many H2.out.kmany hN HGG.out
    have HDR := Lib.hid hdr
    have HND := Lib.hid hnd
    clear hdr hnd
    go_wp2_with fail
    refine HDR.out.mono ?_
    rintro e w2 ⟨⟨rv, rfl⟩, f2, r2, n2, s2, F2⟩
    clear HDR
    go_wp2
    go_ret
    obtain ⟨e1, g1⟩ := dropN_ents H2.out HGG.out
    have htb : tb < w.heap.size := lt_of_heap C1.out
    refine ⟨by rw [HGG.out]; rfl, tb :: f2, ⟨dropN zeroV x k, ⟨ra, f2, (F2.block tb htb HND.out.1).trans C1.out, r2, List.Perm.refl _, List.nodup_cons.2 ⟨fun hm => ?_, n2⟩⟩, g1, e1⟩, fun b hb => ?_, ⟨F2.os, F2.tape, F2.output, F2.size, fun b h1 h2 => F2.block b h1 fun hm => h2 (C3.out.mem_iff.2 (List.mem_cons_of_mem _ hm))⟩⟩
    · rcases s2 tb hm with h | h
      · exact HND.out.1 h
      · exact absurd htb (Nat.not_lt.2 h)
    · rcases List.mem_cons.1 hb with e | hb
      · exact .inl (C3.out.mem_iff.2 (by rw [e]; simp))
      · rcases s2 b hb with h | h
        · exact .inl (C3.out.mem_iff.2 (List.mem_cons_of_mem _ h))
        · exact .inr h
end Go.Proofs.Ytkpfendodmfeoaa
