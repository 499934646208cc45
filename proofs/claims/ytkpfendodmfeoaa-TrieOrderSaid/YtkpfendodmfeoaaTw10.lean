import Derived.Test.YtkpfendodmfeoaaTw9
import Derived.Deep.DeepCutAuto
namespace Go.Proofs.Ytkpfendodmfeoaa
set_option linter.unusedVariables false
set_option linter.unusedSimpArgs false
open Go.RowKit
theorem new_rep {W : World} {t : Bs} {nb : Nat} (h : W.heap[nb]? = some (.cells #[str t, .bool false, encV zeroV, n64 0, .slice none 0 0] 57 (0, 0))) : RepN encV W ⟨t, false, zeroV, 0, .nil⟩ nb [nb] :=
  ⟨.slice none 0 0, [], [], h, kids_nil _, ⟨rfl, rfl⟩, by simp [rbl, Value.ownBlock]⟩
theorem PutInv.drew {had : Bool} {v : V} {G : World → Prop} {a : Nat} {n : Nd V} {fa : List Nat} {t : Bs} {wr : World} (h : PutInv had v G a n fa t wr) (k : Nat) : PutInv had v G a n fa t (wr.drewN k) := by
  obtain ⟨h1, h2, h3, h4, h5, h6, h7, h8, h9, h10⟩ := h
  exact ⟨h1.move fun _ _ => rfl, h2, h3, h4, h5, h6, h7, h8, h9, fun w' fa' k1 k2 k3 k4 => h10 w' fa' k1 k2 k3 ⟨k4.os, k4.tape, k4.output, k4.size, k4.block⟩⟩
/-- What stands when the way goes down: the row below (with the new node, if there is to be one), and the node in question. -/
def Down (had : Bool) (v : V) (n : Nd V) (t : Bs) (mm a : Nat) (fa : List Nat) (wr : World) (ix : Nat) (W4 : World) : Prop :=
  ∃ (K : F V) (y : Nd V) (fb : List Nat) (M : Nat), RepN encV W4 ⟨n.edge, n.is, n.v, mm, K⟩ a fb ∧ fb.Nodup ∧ (∀ b ∈ fb, b ∈ fa ∨ wr.heap.size ≤ b) ∧ Fr (fun b => b ∈ fa) wr W4 ∧ K.nth ix = some y ∧ y.edge ≠ [] ∧ hd y.edge = hd t ∧
    putF zeroV had n.kids t v = K.set ix (putN zeroV had (cutN y t) (t.drop (com y.edge t)) v) ∧ y.kids.WF ∧ y.kids.Short M ∧ y.edge.length + M ≤ 4294967296 ∧ y.many = y.ents.length ∧ y.kids.Many ∧ y.ents.length ≤ 4294967296 ∧
    lget n.ents t = lget (cutN y t).ents (t.drop (com y.edge t))
set_option maxHeartbeats 3200000 in
set_option maxRecDepth 100000 in
theorem Put_calls (w : World) (tb : Nat) (x : Nd V) (fp : List Nat) (ht : TrieAt encV w tb x fp) (hG : Good zeroV x) (L : Nat) (hL : L ≤ 4294967296) (hK : KeysLe L x.ents) (hN : x.ents.length ≤ 4294967296)
    (s : ByteArray) (l : Bs) (hs : s = ⟨l.toArray⟩) (hl : l.length ≤ 4294967296) (v : V) :
    Calls Try.prog 12 #[.pointer (some ⟨tb, 0, none⟩), .string s, encV v] w fun e w' => e = .returned (.bool (!(lget x.ents l).isSome)) ∧ PutPost w tb (putN zeroV (lget x.ents l).isSome x l v) fp w' := by
  have HS := Lib.hid hs
  obtain ⟨ra, fr, h1, h2, h3, h4⟩ := id ht
  have hc0 : w.cell? ⟨tb, 0, none⟩ = some (ptr ra) := by rw [cell_of_row w tb _ _ _ (0, 0) h1]; rfl
  obtain ⟨had, hhad⟩ : ∃ b, b = (lget x.ents l).isSome := ⟨_, rfl⟩
  have hI0 : PutInv had v (PutPost w tb (putN zeroV had x l v) fp) ra x fr l w := by
    have hnd := h3.nodup_iff.1 h4
    rw [List.nodup_cons] at hnd
    refine ⟨h2, hnd.2, hG.wf, ⟨L, hG.short hK, hL⟩, hl, hG.many, hG.kmany, hN, hhad.symm, fun w' fa' k1 k2 k3 k4 => ⟨tb :: fa', ⟨ra, fa', ?_, k1, List.Perm.refl _, List.nodup_cons.2 ⟨fun hm => ?_, k2⟩⟩, fun b hb => ?_, k4.mono fun i _ hm => h3.mem_iff.2 (List.mem_cons_of_mem _ hm)⟩⟩
    · exact (k4.block tb (lt_of_heap h1) hnd.1).trans h1
    · rcases k3 tb hm with e | e
      · exact hnd.1 e
      · have := lt_of_heap h1; omega
    · rcases List.mem_cons.1 hb with e | hb
      · exact .inl (h3.mem_iff.2 (by rw [e]; exact List.mem_cons_self ..))
      · rcases k3 b hb with e | e
        · exact .inl (h3.mem_iff.2 (List.mem_cons_of_mem _ e))
        · exact .inr e
  have HT := Lib.hid ht
  have HG := Lib.hid hG
  have HK := Lib.hid hK
  have HHAD := Lib.hid hhad
  have hgb : gotV encV (lget x.ents l) = gotV encV (lget x.ents l) := rfl
  rw [← hhad]
  obtain ⟨gv, hgv⟩ : ∃ gv, gv = gotV encV (lget x.ents l) := ⟨_, rfl⟩
  have HGV := Lib.hid hgv
  have HI0 := Lib.hid hI0
  clear hs h1 h2 h3 h4 ht hG hK hhad hgb hgv hI0
  go_enter Try.func12, Try.ntmps12
  go_wp2_with (go_at_call 21; refine (Get_calls w tb x fp HT.out HG.out L hL HK.out s l HS.out hl).mono ?_; rintro e9 w' ⟨rfl, ⟨nd, rfl⟩⟩; rw [← HHAD.out, ← HGV.out])
  go_loopw [9, 10] (fun u9 u10 wr => ∃ (a : Nat) (n : Nd V) (fa : List Nat) (t : Bs), u9 = ptr a ∧ u10 = str t ∧ PutInv had v (PutPost w tb (putN zeroV had x l v) fp) a n fa t wr) (fun _ u10 _ => sizeOfS u10)
  case atStart => exact ⟨ra, x, fr, l, rfl, by rw [HS.out], HI0.out.drew nd⟩
  case round =>
    obtain ⟨a, n, fa, t, rfl, rfl, hI⟩ := hrel
    obtain ⟨hr, hnd, hW, ⟨M, hS, hM⟩, htl, hm, hkm, hel, hlg, hwand⟩ := id hI
    have HI := Lib.hid hI
    have HR := Lib.hid hr
    have HWD := Lib.hid hwand
    obtain ⟨sv, qs, fk, hn, _⟩ := id hr
    obtain ⟨k0, k1, k2, k3, k4⟩ := hn.cells
    have f1 := frozen_of_row wr a 1 _ _ hn
    have f2 := frozen_of_row wr a 2 _ _ hn
    have f3 := frozen_of_row wr a 3 _ _ hn
    have halt := hn.lt
    have hmle : n.many ≤ 4294967296 := by omega
    obtain ⟨st, hst⟩ : ∃ st : ByteArray, st = ⟨t.toArray⟩ := ⟨_, rfl⟩
    have hsz : st.size = t.length := by rw [hst, str_of]
    rw [lit_of hst]
    have hfa : a ∈ fa := hr.mem
    clear hI hr hwand hn hm k0 k4
    by_cases h0 : t = []
    · have hem : st.toList.isEmpty = true := by rw [hst, h0, ByteArray.toList_eq]; rfl
      have HST := Lib.hid hst
      have H0 := Lib.hid h0
      clear hst h0
      cases had with
      | false =>
        go_wp2
        go_ret
        refine ⟨rfl, ?_⟩
        rw [H0.out] at HWD
        refine HWD.out _ fa ?_ hnd (fun b hb => .inl hb) ?_
        · have r1 := (HR.out.setMany hnd (n.many + 1)).setEnd hnd true v
          unfold putN
          rw [if_pos rfl]
          exact r1
        · exact ((Fr.setCell wr ⟨a, 3, none⟩ _).trans (Fr.setCell _ ⟨a, 1, none⟩ _) (fun _ _ e => e)).trans (Fr.setCell _ ⟨a, 2, none⟩ _) (fun _ _ e => e) |>.mono fun i _ e => by rw [e]; exact hfa
      | true =>
        go_wp2
        go_ret
        refine ⟨rfl, ?_⟩
        rw [H0.out] at HWD
        refine HWD.out _ fa ?_ hnd (fun b hb => .inl hb) ?_
        · have r1 := HR.out.setEnd hnd true v
          unfold putN
          rw [if_pos rfl]
          exact r1
        · exact ((Fr.setCell wr ⟨a, 1, none⟩ _).trans (Fr.setCell _ ⟨a, 2, none⟩ _) (fun _ _ e => e)).mono fun i _ e => by rw [e]; exact hfa
    · have hse : st.toList.isEmpty = false := str_ne hst h0
      have hpos := List.length_pos_iff.2 h0
      have h1 : (0 : Int) < (st.size : Int) := by omega
      have h1' : 0 < st.size := by omega
      have hs0 := hd_s0 hst h1'
      have HST := Lib.hid hst
      have hh : hd t < 256 := at_lt t 0
      have hlen : n.kids.len ≤ 4294967296 := by have := F.ord_len hW.ord; omega
      have HLG := Lib.hid hlg
      clear hst hlg
      cases had
      case' false =>
        go_wp2_with fail
        have hr1 := HR.out.setMany hnd (n.many + 1)
        have hF1 : ∀ W1, W1 = wr.setCell ⟨a, 3, none⟩ (n64 (n.many + 1)) → Fr (fun b => b ∈ fa) wr W1 := fun W1 e => by rw [e]; exact (Fr.setCell wr ⟨a, 3, none⟩ _).mono fun i _ e => by rw [e]; exact hfa
        have hW1 : ∃ W1, W1 = wr.setCell ⟨a, 3, none⟩ (n64 (n.many + 1)) := ⟨_, rfl⟩
        have hδ : n.many + 1 = δ false n.many := rfl
      case' true =>
        go_wp2_with fail
        have hr1 := HR.out
        have hF1 : ∀ W1, W1 = wr → Fr (fun b => b ∈ fa) wr W1 := fun W1 e => by rw [e]; exact Fr.refl _ _
        have hW1 : ∃ W1, W1 = wr := ⟨_, rfl⟩
        have hδ : n.many = δ true n.many := rfl
      all_goals
        obtain ⟨W1, hW1⟩ := hW1
        replace hF1 := hF1 W1 hW1
        rw [← hW1] at hr1
        first | (show Calls _ _ _ (wr.setCell ⟨a, 3, none⟩ (n64 (n.many + 1))) _; rw [← hW1]) | rw [← hW1]
      all_goals
        obtain ⟨mm, hmm⟩ : ∃ mm, mm = δ (lget n.ents t).isSome n.many := ⟨_, rfl⟩
        have hr2 : RepN encV W1 ⟨n.edge, n.is, n.v, mm, n.kids⟩ a fa := by rw [hmm, HLG.out]; exact hr1
        rw [HLG.out] at hmm
        have HMM := Lib.hid hmm
        clear hmm
        have hbel := below_calls W1 _ a fa hr2 hW.ord (hd t) hh hlen
        dsimp only at hbel
        refine hbel.mono ?_
        rintro e9 w' ⟨rfl, rfl⟩
        clear hbel hr1 hδ
        obtain ⟨ix, hix⟩ : ∃ ix, ix = n.kids.idx (hd t) := ⟨_, rfl⟩
        have hixl := F.idx_le n.kids (hd t)
        rw [← hix] at hixl ⊢
        have HIX := Lib.hid hix
        have HW1 := Lib.hid hW1
        have hW1s := hF1.size
        clear hix hW1
        cases hhas : n.kids.has (hd t)
        case' false =>
          have hhas' : n.kids.has (hd t) = false := hhas
          have HNO := Lib.hid hhas'
          clear hhas'
          obtain ⟨sv, qs, fk, q1, q2, q3, q4⟩ := id hr2
          dsimp only at q1 q2 q3 q4
          have c4 := q1.cells.2.2.2.2
          have hvg : sv.ownBlock ≠ some (W1.heap.size + 1) := fun e => by have := (Row.lt q2 _ e).2; omega
          have hv2 := heap_alloc_new (W1.alloc (.cells #[.string st, .bool false, .int .i64 0, .int .i64 0, .slice none 0 0] 57)) (.cells #[ptr W1.heap.size] 54)
          rw [World.size_alloc] at hv2
          have hins := Insert_calls _ sv n.kids.len qs (Row.alloc (Row.alloc q2 (.cells #[.string st, .bool false, .int .i64 0, .int .i64 0, .slice none 0 0] 57)) (.cells #[ptr W1.heap.size] 54)) ix hixl _ _ hv2 hvg hlen
          have HINS := Lib.hid hins
          have HHAS := Lib.hid hhas
          clear hins hhas hv2
          go_wp2_with fail
          refine HINS.out.mono ?_
          rintro e8 w3 ⟨sv', rfl, hk3, hg3, hob3⟩
          clear HINS
          obtain ⟨A3, c3, rfl, _⟩ := id hk3.rd
          obtain ⟨nin1, nin2, nin3, nin4⟩ := RepN.nin (n := n) (enc := encV) (w := W1) q4 hnd
          have hF3 : Fr (fun b => b ∈ rbl sv) W1 w3 := ((Fr.alloc W1 _).trans (Fr.alloc _ _) (fun _ _ e => e)).trans (Fr.of_grown hg3) (fun i _ e => rbl_mem e)
          have ha3 : w3.heap[a]? = W1.heap[a]? := hF3.block a q1.lt fun hm => nin1 a hm rfl
          have q13 : NdAt w3 a n.edge n.is (encV n.v) mm sv := ha3.trans q1
          have c43 := q13.cells.2.2.2.2
          have f43 := frozen_of_row w3 a 4 _ _ q13
          have hnew : w3.heap[W1.heap.size]? = some (.cells #[str t, .bool false, encV zeroV, n64 0, .slice none 0 0] 57 (0, 0)) := by
            have e1 := hg3.block W1.heap.size (by simp; omega) (fun e => by have := (Row.lt q2 _ e.symm).2; omega)
            rw [e1]
            refine (Below.heap_alloc _ _ _ (by simp)).trans ?_
            rw [lit_of HST.out]
            exact heap_alloc_new W1 _
          obtain ⟨fb, r4, n4b, s4⟩ := kid_ins (n := ⟨n.edge, n.is, n.v, mm, n.kids⟩) q1 q2 q3 q4 hnd hixl (Nat.le_refl _) (new_rep hnew) hk3 hF3 (fun g hg => by
            rcases hob3 with e | ⟨g', e, hge⟩
            · exact .inl (by rw [← e]; exact hg)
            · rw [hg] at e; cases e
              simp only [World.size_alloc] at hge
              exact .inr ⟨by omega, by omega⟩)
          dsimp only at r4
          have hb4 : ∀ b ∈ fb, b ∈ fa ∨ wr.heap.size ≤ b := fun b hb => (s4 b hb).imp id (fun h => Nat.le_trans hW1s h)
          have hF4 : Fr (fun b => b ∈ fa) wr (w3.setCell ⟨a, 4, none⟩ (.slice A3 (n.kids.len + 1) c3)) :=
            (hF1.trans (hF3.mono (S' := fun b => b ∈ fa) fun i _ hm => q4.mem_iff.2 (List.mem_cons_of_mem _ (List.mem_append_left _ hm))) (fun _ _ e => e)).trans (Fr.setCell w3 ⟨a, 4, none⟩ _) (fun i _ e => by rw [e]; exact hfa)
          have hy : (n.kids.ins ix ⟨t, false, zeroV, 0, .nil⟩).nth ix = some ⟨t, false, zeroV, 0, .nil⟩ := F.ins_nth _ _ _ hixl
          have R4 := Lib.hid r4
          have HF4 := Lib.hid hF4
          have HY := Lib.hid hy
          have hct : com t t = t.length := by have := com_append t []; rwa [List.append_nil] at this
          have hput : putF zeroV (lget n.ents t).isSome n.kids t v = (n.kids.ins ix ⟨t, false, zeroV, 0, .nil⟩).set ix (putN zeroV (lget n.ents t).isSome (cutN ⟨t, false, zeroV, 0, .nil⟩ t) (t.drop (com t t)) v) := by
            rw [lget_no hW h0 HHAS.out, F.ins_set _ _ _ _ hixl, HIX.out]
            have e1 : cutN (⟨t, false, zeroV, 0, .nil⟩ : Nd V) t = ⟨t, false, zeroV, 0, .nil⟩ := by unfold cutN; dsimp only; rw [if_neg (by omega)]
            rw [e1, hct, List.drop_length, show (none : Option V).isSome = false from rfl, putF_no rfl hW.ord HHAS.out]; rfl
          have HPUT := Lib.hid hput
          have hcut : cutN (⟨t, false, zeroV, 0, .nil⟩ : Nd V) t = ⟨t, false, zeroV, 0, .nil⟩ := by unfold cutN; dsimp only; rw [if_neg (by omega)]
          have hlno : lget n.ents t = lget (cutN (⟨t, false, zeroV, 0, .nil⟩ : Nd V) t).ents (t.drop (com t t)) := by
            rw [hcut, hct, List.drop_length, lget_no hW h0 HHAS.out]; rfl
          obtain ⟨W4, hW4⟩ : ∃ W4, W4 = w3.setCell ⟨a, 4, none⟩ (.slice A3 (n.kids.len + 1) c3) := ⟨_, rfl⟩
          have hD : Down (lget n.ents t).isSome v n t mm a fa wr ix W4 := by
            rw [hW4]
            exact ⟨_, ⟨t, false, zeroV, 0, .nil⟩, fb, 0, r4, n4b, hb4, hF4, hy, h0, rfl, HPUT.out, trivial, trivial, by dsimp only; omega, rfl, trivial, by simp [Nd.ents, F.ents, own], hlno⟩
          rw [HLG.out] at hD
          have HD := Lib.hid hD
          have HW4 := Lib.hid hW4
          clear hD hW4 r4 hF4 hy hput hlno hcut
          go_upto_region 12 with fail
          rw [← HW4.out]
        case' true =>
          obtain ⟨y, hy, hyh⟩ := F.has_nth hhas
          rw [← HIX.out] at hy
          obtain ⟨hye, hyW⟩ := hW.nth hy
          obtain ⟨hyl, hyS⟩ := hS.nth hy
          obtain ⟨m1, m2, m3⟩ := hkm.nth hy
          have hke : n.kids.ents.length ≤ n.ents.length := by rw [Nd.ents, List.length_append]; omega
          have hput : putF zeroV (lget n.ents t).isSome n.kids t v = n.kids.set ix (putN zeroV (lget n.ents t).isSome (cutN y t) (t.drop (com y.edge t)) v) := by
            rw [HIX.out]
            exact putF_yes h0 hye (by rw [← HIX.out]; exact hy) hyh fun hc => by rw [lget_cut hW h0 (by rw [← HIX.out]; exact hy) hyh hc]; rfl
          have hD : Down (lget n.ents t).isSome v n t mm a fa wr ix W1 := ⟨n.kids, y, fa, M - y.edge.length, hr2, hnd, fun b hb => .inl hb, hF1, hy, hye, hyh, hput, hyW, hyS, by omega, m1, m2, by omega, lget_step hW h0 (by rw [← HIX.out]; exact hy) hyh⟩
          rw [HLG.out] at hD
          have HD := Lib.hid hD
          clear hD hput hy hyh
          go_upto_region 12 with fail
          have hW4 : ∃ W4, W4 = W1 := ⟨_, rfl⟩
          obtain ⟨W4, hW4⟩ := hW4
          rw [← hW4] at HD ⊢
          clear hW4
      all_goals
        obtain ⟨K, y, fb, M, d1, d2, d3, d4, d5, d6, d7, d8, d9, d10, d11, d12, d13, d14, d15⟩ := HD.out
        obtain ⟨g, off, cap, a2, f2, c1, c2, e1, e2, e3, e4, e5⟩ := kid_wand d1 d2 d5
        dsimp only at c1 e4 e5
        rw [HMM.out] at e5
        have c3 := e1.edge
        obtain ⟨se, hse2⟩ : ∃ se : ByteArray, se = ⟨y.edge.toArray⟩ := ⟨_, rfl⟩
        have hsez : se.size = y.edge.length := by rw [hse2, str_of]
        rw [lit_of hse2] at c3
        have HSE := Lib.hid hse2
        obtain ⟨c, hc⟩ : ∃ c, c = com y.edge t := ⟨_, rfl⟩
        have hcl := com_le y.edge t
        have hcp := com_pos d6 h0 d7
        rw [← hc] at hcl hcp
        have hnx : ∀ (W3 : World) (f3 : List Nat), RepN encV W3 (cutN y t) a2 f3 → f3.Nodup → (∀ b ∈ f3, b ∈ f2 ∨ W4.heap.size ≤ b) → Fr (fun b => b ∈ f2) W4 W3 → PutInv _ v (PutPost w tb (putN zeroV _ x l v) fp) a2 (cutN y t) f3 (t.drop c) W3 := fun W3 f3 r1 r2 r3 r4 => by
          rw [hc]
          exact PutInv.next HI.out h0 d4 d3 d8 e3 e2 e5 d9 d10 d11 d12 d13 d14 d15 r1 r2 r3 r4
        have HNX := Lib.hid hnx
        have HC := Lib.hid hc
        have HE1 := Lib.hid e1
        have HE2 := Lib.hid e2
        have i1 : (ix : Int) < (K.len : Int) := by omega
        have hx := extract_eq t c t.length
        rw [← HST.out, List.take_length] at hx
        have HX := Lib.hid hx
        have i3 : (c : Int) ≤ (st.size : Int) := by omega
        have hyl : y.edge.length ≤ 4294967296 := by omega
        clear hnx hse2 hc d1 d2 d3 d4 d5 d6 d7 d8 d9 d10 d11 d12 d13 d14 d15 e1 e2 e3 e5 HD hx
        by_cases hcl2 : c < y.edge.length
        · have i2 : (c : Int) < (se.size : Int) := by omega
          have i4 : decide (c < se.size) = true := decide_eq_true (by omega)
          go_wp2_with (first
            | (go_at_call 33; refine (common_calls y.edge t se st HSE.out HST.out hyl htl _).mono ?_; rintro e9 w' ⟨rfl, ⟨nd2, rfl⟩⟩; rw [← HC.out])
            | (go_at_call 34; (refine (split_calls (W4.drewN nd2) a2 y f2 (HE1.out.move fun _ _ => rfl) HE2.out c hcl2 hyl).mono ?_; rintro e8 w5 ⟨⟨rv, rfl⟩, f3, r3, n3, s3, F3⟩)))
          go_roundw
          case rel =>
            refine ⟨a2, cutN y t, f3, t.drop c, rfl, by rw [HX.out], HNX.out _ f3 ?_ n3 s3 ⟨F3.os, F3.tape, F3.output, F3.size, F3.block⟩⟩
            have hcut : cutN y t = splitN y c := by unfold cutN; rw [← HC.out, if_pos hcl2]
            rw [hcut]; exact r3
          case measure => rw [HX.out]; simp only [sizeOfS, str_of, List.length_drop]; omega
        · have i2 : ¬ (c : Int) < (se.size : Int) := by omega
          have i4 : decide (c < se.size) = false := decide_eq_false (by omega)
          go_wp2_with (go_at_call 33; refine (common_calls y.edge t se st HSE.out HST.out hyl htl _).mono ?_; rintro e9 w' ⟨rfl, ⟨nd2, rfl⟩⟩; rw [← HC.out])
          go_roundw
          case rel =>
            refine ⟨a2, cutN y t, f2, t.drop c, rfl, by rw [HX.out], HNX.out _ f2 ?_ HE2.out (fun b hb => .inl hb) ⟨rfl, rfl, rfl, Nat.le_refl _, fun _ _ _ => rfl⟩⟩
            have hcut : cutN y t = y := by unfold cutN; rw [← HC.out, if_neg hcl2]
            rw [hcut]; exact HE1.out.move fun _ _ => rfl
          case measure => rw [HX.out]; simp only [sizeOfS, str_of, List.length_drop]; omega
end Go.Proofs.Ytkpfendodmfeoaa
