import Derived.Test.YtkpfendodmfeoaaTw14
namespace Go.Proofs.Ytkpfendodmfeoaa
set_option linter.unusedVariables false
set_option linter.unusedSimpArgs false
open Go.RowKit
/-- How many nodes the first ones are, and those below them. -/
def F.upto : F V → Nat → Nat
  | .nil, _ => 0
  | .cons _ _ _ _ _ _, 0 => 0
  | .cons _ _ _ _ k r, j + 1 => k.nodes + 1 + r.upto j
theorem F.upto_zero (f : F V) : f.upto 0 = 0 := by cases f <;> rfl
theorem F.upto_all : (f : F V) → f.upto f.len = f.nodes
  | .nil => rfl
  | .cons _ _ _ _ k r => by simp [F.len, F.upto, F.nodes, F.upto_all r]; omega
theorem F.upto_step : {f : F V} → {j : Nat} → {y : Nd V} → f.nth j = some y → f.upto (j + 1) = f.upto j + (y.kids.nodes + 1) ∧ f.upto j + (y.kids.nodes + 1) ≤ f.nodes
  | .nil, _, _, h => by simp [F.nth] at h
  | .cons _ _ _ _ k r, 0, y, h => by
      simp only [F.nth] at h
      cases h
      simp only [F.upto, F.nodes, F.upto_zero]
      omega
  | .cons _ _ _ _ k r, j + 1, y, h => by
      obtain ⟨a, b⟩ := F.upto_step (f := r) (j := j) h
      simp only [F.upto, F.nodes] at a b ⊢
      omega
theorem F.len_nodes : (f : F V) → f.len ≤ f.nodes
  | .nil => Nat.le_refl _
  | .cons _ _ _ _ k r => by have := F.len_nodes r; simp [F.len, F.nodes]; omega
def fn1 (cb fb : Nat) : Value := .func (.func 35) #[] #[.pointer (some ⟨cb, 0, none⟩), .pointer (some ⟨fb, 0, none⟩)]
set_option maxHeartbeats 1600000 in
/-- A node, counted, and all that is below it. -/
theorem nodes1_calls : ∀ (N : Nat) (w : World) (n : Nd V) (a : Nat) (fa : List Nat) (cb fb c : Nat), n.kids.nodes < N → RepN encV w n a fa → w.heap[cb]? = some (.cells #[n64 c] 3 (0, 0)) →
    w.heap[fb]? = some (.cells #[fn1 cb fb] 66 (0, 0)) → cb ∉ fa → fb ≠ cb → c + n.kids.nodes ≤ 4294967296 →
    Calls Try.prog 35 #[ptr a, .pointer (some ⟨cb, 0, none⟩), .pointer (some ⟨fb, 0, none⟩)] w fun e w' => (∃ v, e = .returned v) ∧
      w'.heap[cb]? = some (.cells #[n64 (c + (n.kids.nodes + 1))] 3 (0, 0)) ∧ Fr (fun b => b = cb) w w' := by
  intro N
  induction N with
  | zero => intro w n a fa cb fb c h; omega
  | succ N ih =>
    intro w n a fa cb fb c hN hr hcb hfb hcf hne hb
    have IH := Lib.hid ih
    clear ih
    obtain ⟨sv, qs, fk, hn, hk, hf, hp⟩ := id hr
    have k4 := hn.cells.2.2.2.2
    have hlen := F.len_nodes n.kids
    obtain ⟨A, cap, rfl, _, _, hrd, _⟩ := hk.rd
    have d1 : w.cell? ⟨cb, 0, none⟩ = some (n64 c) := by rw [cell_of_row w cb _ _ _ (0, 0) hcb]; rfl
    have d2 : w.frozen? ⟨cb, 0, none⟩ = false := frozen_of_row w cb 0 _ _ hcb
    have d3 := heap_setCell_same w cb 0 _ _ (n64 (c + 1)) hcb
    have hw1 : IntKind.i64.wrap ((c : Int) + 1) = ((c + 1 : Nat) : Int) := by
      rw [show ((c : Nat) : Int) + 1 = ((c + 1 : Nat) : Int) by omega]; exact IntWalk.i64_in _ (by omega)
    have hac : a ≠ cb := fun e => hcf (by rw [← e]; exact hr.mem)
    have HR := Lib.hid hr
    have HN := Lib.hid hn
    have HK := Lib.hid hk
    have HF := Lib.hid hf
    have HP := Lib.hid hp
    have HRD := Lib.hid hrd
    have HFB := Lib.hid hfb
    have HCB := Lib.hid hcb
    have hF0 : Fr (fun b => b = cb) w (w.setCell ⟨cb, 0, none⟩ (n64 (c + 1))) := Fr.setCell w ⟨cb, 0, none⟩ _
    have HF0 := Lib.hid hF0
    have D3 := Lib.hid d3
    clear hr hn hk hf hp hrd hfb hcb hF0 d3
    go_enter Try.func35, Try.ntmps35
    go_wp2
    go_loopw [13] (fun u13 wr => ∃ j : Nat, u13 = n64 j ∧ j ≤ n.kids.len ∧ wr.heap[cb]? = some (.cells #[n64 (c + 1 + n.kids.upto j)] 3 (0, 0)) ∧ Fr (fun b => b = cb) w wr) (fun u13 _ => (n.kids.len - intOf u13).toNat)
    case atStart => exact ⟨0, rfl, Nat.zero_le _, by rw [F.upto_zero]; exact D3.out, HF0.out⟩
    case round =>
      obtain ⟨j, rfl, hj, hcj, hfr⟩ := hrel
      by_cases hlt : j < n.kids.len
      · obtain ⟨y, hy⟩ := F.nth_some hlt
        obtain ⟨s1, s2⟩ := F.upto_step hy
        obtain ⟨a2, f2, fo, k1, k2, k3, _⟩ := HF.out.nth hy
        obtain ⟨g, off, rfl, c1⟩ := HRD.out j (ptr a2) (by rw [List.getElem?_map, k1]; rfl)
        have hg : g ∈ fa := HP.out.mem_iff.2 (by simp [rbl, Value.ownBlock])
        have hgc : g ≠ cb := fun e => hcf (by rw [← e]; exact hg)
        have c2 : wr.cell? ⟨g, off + j, none⟩ = some (ptr a2) := by
          have hkw : Kids wr (.slice (some ⟨g, off, none⟩) n.kids.len cap) n.kids.len qs := Row.at_ HK.out fun k hk => by cases hk; exact hfr.block g (Row.lt HK.out g rfl).2 hgc
          obtain ⟨A9, cap9, hA9, _, _, hrd9, _⟩ := hkw.rd
          obtain ⟨g9, off9, rfl, c9⟩ := hrd9 j (ptr a2) (by rw [List.getElem?_map, k1]; rfl)
          cases hA9
          exact c9
        have hf2 : ∀ b ∈ f2, b ∈ fa := fun b hb => HP.out.mem_iff.2 (List.mem_cons_of_mem _ (List.mem_append_right _ (k3.mem_iff.2 (List.mem_append_left _ hb))))
        have hwf : wr.heap[fb]? = some (.cells #[fn1 cb fb] 66 (0, 0)) := (hfr.block fb (lt_of_heap HFB.out) hne).trans HFB.out
        have c3 : wr.cell? ⟨fb, 0, none⟩ = some (.func (.func 35) #[] #[.pointer (some ⟨cb, 0, none⟩), .pointer (some ⟨fb, 0, none⟩)]) := by rw [cell_of_row wr fb _ _ _ (0, 0) hwf]; rfl
        have hk2 : RepN encV wr y a2 f2 := k2.move fun b hb => hfr.block b (k2.lt b hb) fun e => hcf (by rw [← e]; exact hf2 b hb)
        have hrec := IH.out wr y a2 f2 cb fb (c + 1 + n.kids.upto j) (by omega) hk2 hcj hwf (fun hm => hcf (hf2 _ hm)) hne (by omega)
        have HREC := Lib.hid hrec
        have HFR := Lib.hid hfr
        have b1 : (j : Int) < (n.kids.len : Int) := by omega
        clear hrec hfr hwf hk2 k2 k3 hy hf2 hg c1 hcj
        go_wp2_with fail
        refine HREC.out.mono ?_
        rintro e w2 ⟨⟨rv, rfl⟩, h2, hf2⟩
        clear HREC
        go_wp2
        go_roundw
        case rel => exact ⟨j + 1, by go_num, by omega, by rw [h2, s1]; simp only [Nat.add_assoc], HFR.out.trans hf2 fun _ _ e => e⟩
        case measure => simp [intOf]; omega
      · have b1 : ¬ (j : Int) < (n.kids.len : Int) := by omega
        have hjn : j = n.kids.len := by omega
        subst hjn
        rw [F.upto_all] at hcj
        go_wp2
        go_end0
        exact ⟨⟨_, rfl⟩, by rw [hcj]; simp [Nat.add_assoc, Nat.add_comm 1], hfr⟩
end Go.Proofs.Ytkpfendodmfeoaa
