import Derived.Test.YtkpfendodmfeoaaTw15
import Derived.Test.YtkpfendodmfeoaaTp6
import Derived.Laws.EntriesVeiled
import Derived.StillTailTactics
namespace Go.Proofs.Ytkpfendodmfeoaa
set_option linter.unusedVariables false
set_option linter.unusedSimpArgs false
open Go.RowKit
set_option maxHeartbeats 1600000 in
/-- Nodes. -/
theorem TNodes_calls (w : World) (tb : Nat) (l : Ents V) (fp : List Nat) (ht : Tr w tb l fp) (hN : l.length ≤ 1073741824) :
    Calls Try.prog 15 #[.pointer (some ⟨tb, 0, none⟩)] w fun e w' => ∃ n, e = .returned (n64 n) ∧ NodesOf l n ∧ n ≤ 2 * l.length + 1 ∧ Fr (fun _ => False) w w' := by
  obtain ⟨x, h1, h2, rfl⟩ := ht
  obtain ⟨ra, fr, c1, c2, c3, c4⟩ := id h1
  have hc0 : w.cell? ⟨tb, 0, none⟩ = some (ptr ra) := by rw [cell_of_row w tb _ _ _ (0, 0) c1]; rfl
  have htb := lt_of_heap c1
  have hnl : x.kids.nodes + 1 ≤ 2 * x.ents.length + 1 := by
    have := F.nodes_le h2.full
    have : x.kids.ents.length ≤ x.ents.length := by rw [Nd.ents, List.length_append]; omega
    omega
  have hno := nodes_of h2.wf h2.full
  have HNO := Lib.hid hno
  obtain ⟨W2, hW2⟩ : ∃ W2, W2 = (w.alloc (.cells #[n64 0] 3)).alloc (.cells #[fn1 w.heap.size (w.heap.size + 1)] 66) := ⟨_, rfl⟩
  have hb : Below w.heap.size w W2 := by rw [hW2]; exact ((Below.refl _ w).alloc (Nat.le_refl _) _).alloc (by simp) _
  have g1 : W2.heap[w.heap.size]? = some (.cells #[n64 0] 3 (0, 0)) := by
    rw [hW2]
    exact (Below.heap_alloc _ _ _ (by simp)).trans (heap_alloc_new w _)
  have g2 : W2.heap[w.heap.size + 1]? = some (.cells #[fn1 w.heap.size (w.heap.size + 1)] 66 (0, 0)) := by
    rw [hW2]
    have := heap_alloc_new (w.alloc (.cells #[n64 0] 3)) (.cells #[fn1 w.heap.size (w.heap.size + 1)] 66)
    rwa [World.size_alloc] at this
  have g3 : RepN encV W2 x ra fr := c2.move fun b hb2 => hb.block b (c2.lt b hb2)
  have hn1 := nodes1_calls (x.kids.nodes + 1) W2.drew x ra fr w.heap.size (w.heap.size + 1) 0 (Nat.lt_succ_self _) (g3.move fun _ _ => rfl) g1 g2 (fun hm => by have := c2.lt _ hm; omega) (by omega) (by omega)
  have HN1 := Lib.hid hn1
  have e1 : W2.cell? ⟨w.heap.size + 1, 0, none⟩ = some (.func (.func 35) #[] #[.pointer (some ⟨w.heap.size, 0, none⟩), .pointer (some ⟨w.heap.size + 1, 0, none⟩)]) := by rw [cell_of_row W2 _ _ _ _ (0, 0) g2]; rfl
  have e2 : W2.cell? ⟨tb, 0, none⟩ = some (ptr ra) := by
    have := (hb.block tb htb).trans c1
    rw [cell_of_row W2 _ _ _ _ (0, 0) this]; rfl
  have HB := Lib.hid hb
  have HW2 := Lib.hid hW2
  have hmf : ∀ (fn : Fn) (first cap : Array Value) (w : World), (Instr.makeFunc fn first cap).run Try.prog w = .ok (.func fn first cap) w := fun _ _ _ _ => rfl
  clear hn1 g1 g2 g3 c1 c2 c3 c4 h1 h2 hno hb hW2
  go_enter Try.func15, Try.ntmps15
  go_wp2
  rw [show (w.alloc (.cells #[.int .i64 0] 3)).alloc (.cells #[.func (.func 35) #[] #[.pointer (some ⟨w.heap.size, 0, none⟩), .pointer (some ⟨w.heap.size + 1, 0, none⟩)]] 66) = W2 from HW2.out.symm]
  have e3 : W2.drew.cell? ⟨w.heap.size + 1, 0, none⟩ = some (.func (.func 35) #[] #[.pointer (some ⟨w.heap.size, 0, none⟩), .pointer (some ⟨w.heap.size + 1, 0, none⟩)]) := e1
  have e4 : W2.drew.cell? ⟨tb, 0, none⟩ = some (ptr ra) := e2
  go_still_tail 5, (by kernel_rfl)
  change wpList _ _ _ _ _ W2.drew
  have hb3 : Below w.heap.size w W2.drew := HB.out.drew
  have HB3 := Lib.hid hb3
  clear hb3
  generalize W2.drew = W3 at HN1 e3 e4 HB3 ⊢
  go_wp2_with fail
  refine HN1.out.mono ?_
  rintro e w4 ⟨⟨rv, rfl⟩, h1, h2⟩
  have e5 : w4.cell? ⟨w.heap.size, 0, none⟩ = some (n64 (x.kids.nodes + 1)) := by rw [cell_of_row w4 _ _ _ _ (0, 0) h1, Nat.zero_add]; rfl
  have hfr : Fr (fun _ => False) w w4 := ⟨h2.os.trans HB3.out.os, h2.tape.trans HB3.out.tape, h2.output.trans HB3.out.output, Nat.le_trans HB3.out.size h2.size, fun k hk _ => (h2.block k (Nat.lt_of_lt_of_le hk HB3.out.size) (fun e => by omega)).trans (HB3.out.block k hk)⟩
  clear h1
  go_wp2
  go_ret
  exact ⟨_, rfl, HNO.out, hnl, hfr⟩
end Go.Proofs.Ytkpfendodmfeoaa
