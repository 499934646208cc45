import Derived.Test.YtkpfendodmfeoaaTw19
namespace Go.Proofs.Ytkpfendodmfeoaa
set_option linter.unusedVariables false
set_option linter.unusedSimpArgs false
open Go.RowKit Go.Shelf
theorem Dr.rest {w w' : World} (h : Dr w w') : w'.os = w.os ∧ w'.tape = w.tape ∧ w'.output = w.output := by obtain ⟨n, rfl⟩ := h; exact ⟨rfl, rfl, rfl⟩
theorem Dr.cell {w w' : World} (h : Dr w w') (a : Addr) : w'.cell? a = w.cell? a := by obtain ⟨n, rfl⟩ := h; rfl
theorem findF_ok : ∀ (n : Nat) (s : Bs), s.length = n → ∀ (f : F V) (L : Nat) (y : Nd V) (k : Nat), f.WF → f.Short L → findF f s = some (y, k) → y.kids.WF ∧ y.kids.Short L ∧ k ≤ L ∧ k ≤ y.edge.length ∧ y.edge.length ≤ L := by
  intro n
  induction n using Nat.strongRecOn with
  | _ n ih =>
    intro s hn f
    induction f with
    | nil => intro L y k _ _ h; rw [findF] at h; cases h
    | cons e i w m k r _ ihr =>
      rintro L y j ⟨h1, h2, h3, h4⟩ ⟨g1, g2, g3⟩ h
      rw [findF] at h
      split at h
      · exact ihr L y j h4 g3 h
      · split at h
        · cases h
        · split at h
          · cases h; exact ⟨h3, g2.mono (by omega), by omega, Nat.sub_le _ _, g1⟩
          · split at h
            · split at h
              · cases h
              · rename_i hc _
                obtain ⟨a, b, c, d⟩ := ih _ (by rw [List.length_drop]; have := (com_le e s).2; omega) _ rfl k _ y j h3 g2 h
                exact ⟨a, b.mono (by omega), by omega, d.1, by omega⟩
            · cases h
theorem findN_ok {x y : Nd V} {s : Bs} {L k : Nat} (h0 : x.edge = []) (h1 : x.kids.WF) (h2 : x.kids.Short L) (h : findN x s = some (y, k)) : y.kids.WF ∧ y.kids.Short L ∧ k ≤ L ∧ k ≤ y.edge.length ∧ y.edge.length ≤ L := by
  unfold findN at h
  split at h
  · cases h; exact ⟨h1, h2, Nat.zero_le _, Nat.zero_le _, by rw [h0]; exact Nat.zero_le _⟩
  · exact findF_ok _ s rfl _ L y k h1 h2 h
set_option maxHeartbeats 3200000 in
set_option maxRecDepth 100000 in
/-- The function that Under hands back. -/
theorem under1_calls (tb bx1 bx2 : Nat) (x : Nd V) (fp : List Nat) (p : Bs) (s : ByteArray) (hs : s = ⟨p.toArray⟩) (L : Nat) (hL : L ≤ 1073741824) (hK : KeysLe L x.ents) (hG : Good zeroV x) (hl : p.length ≤ 1073741824)
    (yl : Nat) (J Jx : List Ent → World → Prop) (W : World) (hJ : AbidesFrom W.heap.size J) (ht : TrieAt encV W tb x fp)
    (h1 : W.heap[bx1]? = some (.cells #[.pointer (some ⟨tb, 0, none⟩)] 24 (0, 0))) (h2 : W.heap[bx2]? = some (.cells #[.string s] 9 (0, 0)))
    (hY : ∀ pr x' W1, J pr W1 → pr.length < (lunder x.ents p).length → x'.1.length ≤ 4294967296 → YieldAt Fence.wide 0 Try.prog yl (encE x') W1 fun e W' => (e = .returned (.bool true) ∧ J (pr ++ [x']) W' ∧ KpU (fun b => b ∈ fp ∨ b = bx1 ∨ b = bx2) W1 W') ∨ (e = .returned (.bool false) ∧ Jx (pr ++ [x']) W'))
    (hJ0 : J [] W) :
    Calls Try.prog 40 #[.func (.yield yl) #[] #[], .pointer (some ⟨bx1, 0, none⟩), .pointer (some ⟨bx2, 0, none⟩)] W fun e W' => (∃ v, e = .returned v) ∧
      (J (lunder x.ents p) W' ∨ ∃ q, q <+: lunder x.ents p ∧ Jx q W') := by
  obtain ⟨ra, fr, k1, k2, k3, k4⟩ := id ht
  obtain ⟨WA, hWA⟩ : ∃ WA, WA = W.alloc (.cells #[.func (.yield yl) #[] #[]] 27) := ⟨_, rfl⟩
  have hlu := findN_law p hG.wf hG.edge
  have hbA : Below W.heap.size W WA := by rw [hWA]; exact (Below.refl _ W).alloc (Nat.le_refl _) _
  have hzA : WA.heap.size = W.heap.size + 1 := by rw [hWA]; simp
  have hnA : WA.heap[W.heap.size]? = some (.cells #[.func (.yield yl) #[] #[]] 27 (0, 0)) := by rw [hWA]; exact heap_alloc_new W _
  have c1 : WA.cell? ⟨bx1, 0, none⟩ = some (.pointer (some ⟨tb, 0, none⟩)) := by rw [cell_of_row WA bx1 _ _ _ (0, 0) ((hbA.block _ (lt_of_heap h1)).trans h1)]; rfl
  have c2 : WA.cell? ⟨bx2, 0, none⟩ = some (.string s) := by rw [cell_of_row WA bx2 _ _ _ (0, 0) ((hbA.block _ (lt_of_heap h2)).trans h2)]; rfl
  have c3 : WA.cell? ⟨tb, 0, none⟩ = some (ptr ra) := by rw [cell_of_row WA tb _ _ _ (0, 0) ((hbA.block _ (lt_of_heap k1)).trans k1)]; rfl
  have d1 : W.cell? ⟨bx1, 0, none⟩ = some (.pointer (some ⟨tb, 0, none⟩)) := by rw [cell_of_row W bx1 _ _ _ (0, 0) h1]; rfl
  have d2 : W.cell? ⟨bx2, 0, none⟩ = some (.string s) := by rw [cell_of_row W bx2 _ _ _ (0, 0) h2]; rfl
  have hr : RepN encV WA x ra fr := k2.move fun b hb => hbA.block b (k2.lt b hb)
  have hfind := find_calls WA tb ra x fr c3 hr hG.wf L (hG.short hK) (by omega) s p hs (by omega)
  have hmf : ∀ (fn : Fn) (first cap : Array Value) (w : World), (Instr.makeFunc fn first cap).run Try.prog w = .ok (.func fn first cap) w := fun _ _ _ _ => rfl
  have HFIND := Lib.hid hfind
  have HWA := Lib.hid hWA
  have HBA := Lib.hid hbA
  have HJ := Lib.hid hJ
  have HY := Lib.hid hY
  have HG := Lib.hid hG
  have HK := Lib.hid hK
  have HS := Lib.hid hs
  have HLU := Lib.hid hlu
  have HNA := Lib.hid hnA
  have H1 := Lib.hid h1
  have H2 := Lib.hid h2
  have HT := Lib.hid ht
  have hlt1 := lt_of_heap h1
  have hlt2 := lt_of_heap h2
  have K3 := Lib.hid k3
  clear hfind hWA hbA hJ hY hG hK hs hlu hnA h1 h2 ht k1 k2 k3 k4 hr
  go_enter Try.func40, Try.ntmps40
  go_wp2_with fail
  rw [show W.alloc (.cells #[.func (.yield yl) #[] #[]] 27) = WA from HWA.out.symm]
  refine HFIND.out.mono ?_
  rintro e w1 ⟨pv, more, rfl, hF, hD⟩
  clear HFIND
  cases hf : findN x p with
  | none =>
    rw [hf] at hF
    obtain ⟨rfl, rfl⟩ := hF
    have hno : lunder x.ents p = [] := by rw [HLU.out, hf]; rfl
    have HNO := Lib.hid hno
    clear hf hno
    go_wp2
    refine bodyPost_ret (results_none rfl _ _ _) rfl ?_
    refine ⟨⟨_, rfl⟩, .inl ?_⟩
    rw [HNO.out]
    exact abides_none HJ.out hJ0 ⟨(by rw [hD.rest.1]; exact HBA.out.os), (by rw [hD.rest.2.1]; exact HBA.out.tape), (by rw [hD.rest.2.2]; exact HBA.out.output), (by rw [hD.heap]; exact HBA.out.size), fun k hk _ => by rw [hD.heap]; exact HBA.out.block k hk⟩
  | some q =>
    obtain ⟨y, k⟩ := q
    rw [hf] at hF
    obtain ⟨rfl, a, fa, rfl, hy, hsub⟩ := hF
    obtain ⟨o1, o2, o3, o4, o5⟩ := findN_ok HG.out.edge HG.out.wf (HG.out.short HK.out) hf
    have hlf : lunder x.ents p = pre (p ++ y.edge.drop (y.edge.length - more)) y.ents := by rw [HLU.out, hf, tailN, pre_pre]
    obtain ⟨kp, hkp⟩ : ∃ kp, kp = p ++ y.edge.drop (y.edge.length - more) := ⟨_, rfl⟩
    rw [← hkp] at hlf
    have hkl : kp.length = p.length + more := by rw [hkp, List.length_append, List.length_drop]; omega
    obtain ⟨W2, hW2⟩ : ∃ W2, W2 = w1.alloc (.cells #[fn2 W.heap.size (W.heap.size + 1)] 71) := ⟨_, rfl⟩
    have hz1 : w1.heap.size = W.heap.size + 1 := by rw [hD.heap]; exact hzA
    have hb1 : Below W.heap.size W w1 := by obtain ⟨nd, rfl⟩ := hD; exact ⟨HBA.out.os, HBA.out.tape, HBA.out.output, HBA.out.size, HBA.out.block⟩
    have hb2 : Below W.heap.size W W2 := by rw [hW2]; exact hb1.alloc (by omega) _
    have hold : ∀ b, b < w1.heap.size → W2.heap[b]? = w1.heap[b]? := fun b hb => by rw [hW2]; exact Below.heap_alloc _ _ _ hb
    have hyb : W2.heap[W.heap.size]? = some (.cells #[.func (.yield yl) #[] #[]] 27 (0, 0)) := by
      rw [hold _ (by omega), hD.heap]; exact HNA.out
    have hdb : W2.heap[W.heap.size + 1]? = some (.cells #[fn2 W.heap.size (W.heap.size + 1)] 71 (0, 0)) := by
      rw [hW2, ← hz1]; exact heap_alloc_new w1 _
    have hy1 : RepN encV w1 y a fa := hy.move fun b _ => by rw [hD.heap]
    have hy2 : RepN encV W2.drew y a fa := hy1.move fun b hb => hold b (hy1.lt b hb)
    have hsz : ∀ b ∈ fa, (fun b => b ∈ fp ∨ b = bx1 ∨ b = bx2) b := fun b hb => .inl (K3.out.mem_iff.2 (List.mem_cons_of_mem _ (hsub b hb)))
    have hj2 : J [] W2.drew := abides_none HJ.out hJ0 ⟨hb2.os, hb2.tape, hb2.output, hb2.size, fun k hk _ => hb2.block k hk⟩
    obtain ⟨ks, hks⟩ : ∃ ks : ByteArray, ks = ⟨kp.toArray⟩ := ⟨_, rfl⟩
    have hdown := down_in yl W.heap.size (lunder x.ents p).length J Jx _ HJ.out HY.out (y.kids.nodes + 1) y a fa kp ks [] W2.drew W.heap.size (W.heap.size + 1) L 0 (Nat.lt_succ_self _) hy2 hsz hyb hdb o2 (by omega) o1 (by rw [hlf]; simp [pre]) hj2 hks
    rw [callsIn_wide, ← hlf] at hdown
    have c4 := hy1.edge
    obtain ⟨se, hse⟩ : ∃ se : ByteArray, se = ⟨y.edge.toArray⟩ := ⟨_, rfl⟩
    have hsez : se.size = y.edge.length := by rw [hse, str_of]
    rw [lit_of hse] at c4
    have hx := extract_eq y.edge (y.edge.length - more) y.edge.length
    rw [← hse, List.take_length] at hx
    have hadd : ∀ W, (Op.stringOp .add s (se.extract (y.edge.length - more) y.edge.length)).run Try.prog W = .ok (.string ks) W := fun W => by rw [hks, hkp]; exact add_str HS.out hx (by rw [List.length_drop]; omega) W
    have e1 : w1.cell? ⟨bx2, 0, none⟩ = some (.string s) := by rw [hD.cell]; exact c2
    have f1 : W2.cell? ⟨W.heap.size + 1, 0, none⟩ = some (.func (.func 41) #[] #[.pointer (some ⟨W.heap.size, 0, none⟩), .pointer (some ⟨W.heap.size + 1, 0, none⟩)]) := by rw [cell_of_row W2 _ _ _ _ (0, 0) hdb]; rfl
    have f2 : W2.cell? ⟨bx2, 0, none⟩ = some (.string s) := by
      rw [cell_of_row W2 bx2 _ _ _ (0, 0) ((hb2.block bx2 hlt2).trans H2.out)]; rfl
    have f3 : W2.cell? ⟨a, 0, none⟩ = some (.string se) := by
      have := (hy2.move (w' := W2) fun _ _ => rfl).edge
      rwa [lit_of hse] at this
    have g1 : W2.drew.cell? ⟨W.heap.size + 1, 0, none⟩ = _ := f1
    have g2 : W2.drew.cell? ⟨bx2, 0, none⟩ = _ := f2
    have g3 : W2.drew.cell? ⟨a, 0, none⟩ = _ := f3
    have HDOWN := Lib.hid hdown
    have HW2 := Lib.hid hW2
    have hal : a < w1.heap.size := hy1.lt _ hy1.mem
    have hbl : bx2 < w1.heap.size := by omega
    have i1 : ((y.edge.length : Nat) : Int) - (more : Int) = ((y.edge.length - more : Nat) : Int) := by omega
    have i2 : IntKind.i64.wrap (((y.edge.length - more : Nat) : Int)) = ((y.edge.length - more : Nat) : Int) := IntWalk.i64_in _ (by omega)
    clear hdown hW2 hb1 hb2 hold hyb hdb hy hy1 hy2 hsz hj2 hks hkp hlf hse hx hf hsub o1 o2
    go_wp2
    rw [show w1.alloc (.cells #[.func (.func 41) #[] #[.pointer (some ⟨W.heap.size, 0, none⟩), .pointer (some ⟨W.heap.size + 1, 0, none⟩)]] 71) = W2 from HW2.out.symm]
    go_still_tail 16, (by kernel_rfl)
    change wpList _ _ _ _ _ W2.drew
    generalize W2.drew = W3 at HDOWN g1 g2 g3 ⊢
    go_wp2_with fail
    refine HDOWN.out.mono ?_
    rintro e w5 (⟨rfl, hj, _⟩ | ⟨rfl, q, hq, hjx⟩)
    · go_wp2
      go_end0
      exact ⟨⟨_, rfl⟩, .inl hj⟩
    · go_wp2
      go_end0
      exact ⟨⟨_, rfl⟩, .inr ⟨q, hq, hjx⟩⟩
/-- Under: what it hands back, and where what that reads lies. -/
theorem Under_calls (w : World) (tb : Nat) (s : ByteArray) :
    Calls Try.prog 26 #[.pointer (some ⟨tb, 0, none⟩), .string s] w fun e w' => e = .returned (.func (.func 40) #[] #[.pointer (some ⟨w.heap.size, 0, none⟩), .pointer (some ⟨w.heap.size + 1, 0, none⟩)]) ∧
      w' = (w.alloc (.cells #[.pointer (some ⟨tb, 0, none⟩)] 24)).alloc (.cells #[.string s] 9) := by
  go_enter Try.func26, Try.ntmps26
  go_wp2
  go_ret
  exact ⟨rfl, rfl⟩
/-- What is told: a key that is not too long, and what stands for it. -/
abbrev Kl := { x : Ent // x.1.length ≤ 4294967296 }
def encK (x : Kl) : Array Value := encE x.1
def vals (xs : List Kl) : Ents V := xs.map (·.1)
theorem under_stops (n : Nat) (hn : 1 ≤ n) (tb bx1 bx2 : Nat) (l : Ents V) (fp : List Nat) (p : Bs) (s : ByteArray) (hs : s = ⟨p.toArray⟩) (L : Nat) (hL : L ≤ 1073741824) (hK : KeysLe L l) (hl : p.length ≤ 1073741824)
    (w : World) (ht : Tr w tb l fp)
    (h1 : w.heap[bx1]? = some (.cells #[.pointer (some ⟨tb, 0, none⟩)] 24 (0, 0))) (h2 : w.heap[bx2]? = some (.cells #[.string s] 9 (0, 0))) :
    SeqStopsK Fence.wide n Try.prog 40 #[.pointer (some ⟨bx1, 0, none⟩), .pointer (some ⟨bx2, 0, none⟩)] encK (KpU fun b => b ∈ fp ∨ b = bx1 ∨ b = bx2)
      (fun xs => vals xs = lunder l p) (fun q => vals q <+: lunder l p) (lunder l p).length w := by
  obtain ⟨x, ht, hG, rfl⟩ := ht
  intro yl J Jx W hW hJ hJx hY h0
  refine callsIn_wide.2 ((under1_calls tb bx1 bx2 x fp p s hs L hL hK hG hl yl (fun m W => ∃ xs : List Kl, vals xs = m ∧ J xs W) (fun m W => ∃ xs : List Kl, vals xs = m ∧ Jx xs W) W (fun m W W' row ⟨xs, e, h⟩ hg hr => ⟨xs, e, hJ xs W W' row h hg hr⟩) (ht.later hW) ((hW.block _ (lt_of_heap h1)).trans h1) ((hW.block _ (lt_of_heap h2)).trans h2) ?_ ⟨[], rfl, h0⟩).mono ?_)
  · rintro pr x' W1 ⟨xs, rfl, hj⟩ hlt hle
    have h := yield_wide (m' := 0) (hY xs ⟨x', hle⟩ W1 hj (by simpa [vals] using hlt))
    obtain ⟨fn, tmps, assign, body, h1, h2⟩ := h
    refine ⟨fn, tmps, assign, body, h1, h2.mono fun e W' h => ?_⟩
    rcases h with ⟨a, b, c⟩ | ⟨a, b⟩
    · exact .inl ⟨a, ⟨_, by simp [vals], b⟩, c⟩
    · exact .inr ⟨a, ⟨_, by simp [vals], b⟩⟩
  · rintro e W' ⟨a, ⟨xs, e1, b⟩ | ⟨q, hq, xs, rfl, b⟩⟩
    · exact ⟨a, .inl ⟨xs, e1, b⟩⟩
    · exact ⟨a, .inr ⟨xs, hq, b⟩⟩
end Go.Proofs.Ytkpfendodmfeoaa
