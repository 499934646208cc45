import Derived.Test.YtfegchonclhjjaaMem
namespace Go.Proofs.Ytfegchonclhjjaa
open Go.RowKit
/-! 'append' to a row of the call's own, once more: the row that was is still there. -/
theorem run_append_keep {P : Program} (w : World) (B : Nat) (t ty e : TypeId) (i : TypeInfo) (z : Value) (sz bytes : Nat) (ht : P.underlying t = some (.slice e)) (hi : P.info? e = some i) (hz : i.zero = some z)
    (hsize : i.size = sz) (hby : i.bytes = bytes) (hzs : z.cells.size = sz) (hsz : 0 < sz)
    (v : Value) (n : Nat) (xs : List Value) (hown : Row w B e sz v n xs)
    (A : Option Addr) (m c : Nat) (news : List Value) (hl : news.length = m * sz) (hnews : Rd w A news) (h1 : ∀ u ∈ news, u.oneCell' = true)
    (hbytes : (n + m) * bytes ≤ 140737488355328) (h63 : n + m ≤ maxLen) (hB : B ≤ w.heap.size) :
    ∃ v' w', (Builtin.append_ #[t, t] ty #[v, .slice A m c]).run P w = .ok v' w' ∧ Row w' B e sz v' (n + m) (xs ++ news) ∧ w.grownBy w' v.ownBlock ∧
      (v'.ownBlock = v.ownBlock ∨ v'.ownBlock = some w.heap.size) ∧ Row w' B e sz v n xs := by
  obtain ⟨v', w', hr, h2, h3, h4⟩ := run_append_row (P := P) w B t ty e i z sz bytes ht hi hz hsize hby hzs hsz v n xs hown A m c news hl hnews h1 hbytes h63 hB
  refine ⟨v', w', hr, h2, h3, h4, ?_⟩
  refine ⟨hown.1, ?_⟩
  rcases hown.2 with hn | ⟨g, off, cap, cur, rfl, hbg, hg, hnc, hcm, hcs, htake⟩
  · exact .inl hn
  · right
    subst hsize
    have key : ∃ cur', w'.heap[g]? = some (.cells cur' e (0, 0)) ∧ cur'.size = cur.size ∧ cur'.toList.take (off + n * i.size) = cur.toList.take (off + n * i.size) := by
      cases A with
      | none =>
        have hn0 : news = [] := by
          cases news with
          | nil => rfl
          | cons x r => obtain ⟨b, off, e, _⟩ := hnews 0 x rfl; cases e
        subst hn0
        have hm0 : m = 0 := by
          have : m * i.size = 0 := by simpa using hl.symm
          rcases Nat.mul_eq_zero.1 this with h | h
          · exact h
          · omega
        subst hm0
        have : (Builtin.append_ #[t, t] ty #[.slice (some ⟨g, off, none⟩) n cap, .slice none 0 c]).run P w = .ok (.slice (some ⟨g, off, none⟩) n cap) w := by
          simp [Builtin.append_, run_underlying ht, sizeOf, typeInfo, hi, Builtin.lenOf, Builtin.firstCells, hnc, storeCells]
        rw [this] at hr
        cases hr
        exact ⟨cur, hg, rfl, rfl⟩
      | some a =>
        have hnews' : ∀ j u, news[j]? = some u → w.cell? (a.add j) = some u := by
          intro j u hj
          obtain ⟨b, off, e, hc⟩ := hnews j u hj
          cases e
          have hplain : (⟨b, off, none⟩ : Addr).add j = ⟨b, off + j, none⟩ := by unfold Addr.add; split <;> simp_all
          rw [hplain]; exact hc
        have holds : ∀ j u, xs[j]? = some u → w.cell? ((⟨g, off, none⟩ : Addr).add j) = some u := by
          intro j u hj
          have hplain : (⟨g, off, none⟩ : Addr).add j = ⟨g, off + j, none⟩ := by unfold Addr.add; split <;> simp_all
          rw [hplain, cell_of_row w g (off + j) cur e (0, 0) hg]
          rw [← htake, List.getElem?_take] at hj
          split at hj
          · rw [List.getElem?_drop] at hj; simpa using hj
          · cases hj
        by_cases hroom : n + m ≤ cap
        · have hfit : off + n * i.size + news.length ≤ cur.size := by
            have : (n + m) * i.size ≤ cap * i.size := Nat.mul_le_mul_right _ hroom
            rw [Nat.add_mul] at this
            omega
          have hf := run_firstCells_some (P := P) w i.size m a m c news hl hnews'
          have hst := run_storeCells_at P g (off + n * i.size) e news 0 cur w hg (by simpa using hfit) h1
          simp only [Nat.add_zero] at hst
          have hr2 : (Builtin.append_ #[t, t] ty #[.slice (some ⟨g, off, none⟩) n cap, .slice (some a) m c]).run P w = .ok (.slice (some ⟨g, off, none⟩) (n + m) cap) (w.setRow g (cur.toList.take (off + n * i.size) ++ news ++ cur.toList.drop (off + n * i.size + news.length)).toArray) := by
            simp [Builtin.append_, run_underlying ht, sizeOf, typeInfo, hi, Builtin.lenOf, hroom, hf, Addr.add_lit, hst]
          rw [hr2] at hr
          cases hr
          refine ⟨_, setRow_heap w g cur _ e _ hg, ?_, ?_⟩
          · simp only [List.size_toArray, List.length_append, List.length_take, List.length_drop, Array.length_toList]
            omega
          · rw [List.append_assoc]
            exact List.take_left' (by rw [List.length_take, Array.length_toList]; omega)
        · have hr2 := run_append_grow (P := P) w t ty e i z ht hi hz ⟨g, off, none⟩ n cap xs hown.1 holds a m c news hl hnews' (by omega) (by simp only [maxLen] at h63; omega) (growslice_fits (by omega) (by subst hby; exact hbytes))
          rw [hr2] at hr
          cases hr
          exact ⟨cur, (Below.heap_alloc w.drew _ g (lt_of_heap hg)).trans hg, rfl, rfl⟩
    obtain ⟨cur', k1, k2, k3⟩ := key
    refine ⟨g, off, cap, cur', rfl, hbg, k1, hnc, hcm, by omega, ?_⟩
    rw [← htake, List.take_drop, List.take_drop, k3]
/-- The same, at a step of a region that draws its order. -/
theorem step_append_keep {P : Program} (w : World) {ops : Array Oper} {o : Oper} {a : Act} {K : Act → World → Prop} {Q : Exit → Act → World → Prop} {E : Prop} (hgd : o.guard = none) (s x : Operand) (t : TypeId)
    (ho : o.op = .call { callee := .builtin .append, args := #[s, x], argTypes := #[t, t] })
    (B : Nat) (e : TypeId) (sz bytes : Nat) (z : Value) (ht : P.underlying t = some (.slice e)) (hinfo : (P.info? e).map (fun i => (i.zero, i.size, i.bytes)) = some (some z, sz, bytes)) (hzs : z.cells.size = sz) (hsz : 0 < sz)
    (v : Value) (n : Nat) (xs : List Value) (hs : a.eval s = v) (hown : Row w B e sz v n xs)
    (A : Option Addr) (m c : Nat) (news : List Value) (hx : a.eval x = .slice A m c) (hl : news.length = m * sz) (hnews : Rd w A news) (h1 : ∀ u ∈ news, u.oneCell' = true)
    (hbytes : (n + m) * bytes ≤ 140737488355328) (h63 : n + m ≤ maxLen) (hB : B ≤ w.heap.size)
    (h : ∀ A' c' w', Row w' B e sz (.slice A' (n + m) c') (n + m) (xs ++ news) → w.grownBy w' v.ownBlock → ((Value.slice A' (n + m) c').ownBlock = v.ownBlock ∨ (Value.slice A' (n + m) c').ownBlock = some w.heap.size) → Row w' B e sz v n xs → K (a.put o.dst (.slice A' (n + m) c')) w') :
    if Region.wanted o (yielded ops a.tmps) = true then Oper.wp P o a w K Q else E := by
  have hw : Region.wanted o (yielded ops a.tmps) = true := by simp [Region.wanted, hgd]
  rw [if_pos hw]
  obtain ⟨i, hi, hz0, hz1, hz2⟩ := info_parts hinfo
  obtain ⟨v', w', hr, h2, h3, h4, h5⟩ := run_append_keep (P := P) w B t o.type e i z sz bytes ht hi hz0 hz1 hz2 hzs hsz v n xs hown A m c news hl hnews h1 hbytes h63 hB
  unfold Oper.wp execOp
  simp only [ho, resolve, invoke, builtin, Sem.run_bind, Sem.run_pure, Result.andThen_ok, List.map_toArray, List.map_cons, List.map_nil, hs, hx, hr]
  obtain ⟨A', c', rfl, _⟩ := h2.rd
  exact h A' c' w' h2 h3 h4 h5
/-- 'append' behind a guard that says yes. -/
theorem wpList_append_rowG {P : Program} (w : World) {ops : Array Oper} {rest : List Oper} {o : Oper} {a : Act} {Q : Exit → Act → World → Prop} (hgd : Region.wanted o (yielded ops a.tmps) = true) (s x : Operand) (t : TypeId)
    (ho : o.op = .call { callee := .builtin .append, args := #[s, x], argTypes := #[t, t] })
    (B : Nat) (e : TypeId) (sz bytes : Nat) (z : Value) (ht : P.underlying t = some (.slice e)) (hinfo : (P.info? e).map (fun i => (i.zero, i.size, i.bytes)) = some (some z, sz, bytes)) (hzs : z.cells.size = sz) (hsz : 0 < sz)
    (v : Value) (n : Nat) (xs : List Value) (hs : a.eval s = v) (hown : Row w B e sz v n xs)
    (A : Option Addr) (m c : Nat) (news : List Value) (hx : a.eval x = .slice A m c) (hl : news.length = m * sz) (hnews : Rd w A news) (h1 : ∀ u ∈ news, u.oneCell' = true)
    (hbytes : (n + m) * bytes ≤ 140737488355328) (h63 : n + m ≤ maxLen) (hB : B ≤ w.heap.size)
    (h : ∀ A' c' w', Row w' B e sz (.slice A' (n + m) c') (n + m) (xs ++ news) → w.grownBy w' v.ownBlock → ((Value.slice A' (n + m) c').ownBlock = v.ownBlock ∨ (Value.slice A' (n + m) c').ownBlock = some w.heap.size) → wpList P ops Q rest (a.put o.dst (.slice A' (n + m) c')) w') : wpList P ops Q (o :: rest) a w := by
  obtain ⟨i, hi, hz0, hz1, hz2⟩ := info_parts hinfo
  obtain ⟨v', w', hr, h2, h3, h4⟩ := run_append_row (P := P) w B t o.type e i z sz bytes ht hi hz0 hz1 hz2 hzs hsz v n xs hown A m c news hl hnews h1 hbytes h63 hB
  refine wpList_step fun K hK => ?_
  rw [if_pos hgd]
  unfold Oper.wp execOp
  simp only [ho, resolve, invoke, builtin, Sem.run_bind, Sem.run_pure, Result.andThen_ok, List.map_toArray, List.map_cons, List.map_nil, hs, hx, hr]
  obtain ⟨A', c', rfl, _⟩ := h2.rd
  exact hK _ _ (h A' c' w' h2 h3 h4)
end Go.Proofs.Ytfegchonclhjjaa
