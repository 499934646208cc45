import Derived.Test.YtpemjhghiccngaaDoorHs17
import Derived.Test.YtpemjhghiccngaaDoorHs4
import Derived.Deep.DeepCutAuto
namespace Go.Proofs.YtpemjhghiccngaaDoor
set_option linter.unusedVariables false
set_option linter.unusedSimpArgs false
open Go.RowKit Go.Shelf
/-! What stands while an entry comes. -/
structure AdV (w : World) (fp : List Nat) (hb eb : Nat) (e : EntT) (W : World) (L : List EntT) (C : List Bs) (vl vc : Value) : Prop where
  at_ : HsAt W hb L C vl vc
  fp_ : ∀ b ∈ hb :: (rbH vl ++ rbH vc), b ∈ fp ∨ w.heap.size ≤ b
  eb_ : eb ∉ hb :: (rbH vl ++ rbH vc)
  fr_ : Fr (fun b => b ∈ fp) w W
  en_ : W.heap[eb]? = some (entO e 35)
theorem rbH_new {v : Value} {H g : Nat} (h : v.ownBlock = some g → H ≤ g) (hg : g ∈ rbH v) : H ≤ g := h (rbH_of hg)
theorem AdV.later {w : World} {fp : List Nat} {hb eb : Nat} {e : EntT} {W W' : World} {L : List EntT} {C : List Bs} {vl vc : Value} (h : AdV w fp hb eb e W L C vl vc) (b : Below W.heap.size W W') : AdV w fp hb eb e W' L C vl vc :=
  ⟨h.at_.move fun k hk => b.block k (h.at_.lt k hk), h.fp_, h.eb_, h.fr_.trans (Fr.of_fresh b) (fun _ _ e => e), keepB h.en_ b⟩
/-- The entries' row is another one. -/
theorem AdV.setL {w : World} {fp : List Nat} {hb eb : Nat} {e : EntT} {W w2 : World} {L L' : List EntT} {C : List Bs} {vl vl' vc : Value} (h : AdV w fp hb eb e W L C vl vc)
    (hr : Row w2 0 35 3 vl' L'.length (flatE L')) (hf : Fr (fun k => vl.ownBlock = some k) W w2) (ho : vl'.ownBlock = vl.ownBlock ∨ ∃ g, vl'.ownBlock = some g ∧ W.heap.size ≤ g) :
    AdV w fp hb eb e (w2.setCell ⟨hb, 0, none⟩ vl') L' C vl' vc := by
  obtain ⟨n1, n2, n3⟩ := h.at_.ne
  have hbl := lt_of_heap h.at_.1
  have hebl := lt_of_heap h.en_
  have k1 : w2.heap[hb]? = some (.cells #[vl, vc] 67 (0, 0)) := hf.heap h.at_.1 (fun e => n1 hb e rfl)
  have k2 : (w2.setCell ⟨hb, 0, none⟩ vl').heap[hb]? = some (.cells #[vl', vc] 67 (0, 0)) := by
    have := heap_setCell_same w2 hb 0 #[vl, vc] 67 vl' k1
    simpa using this
  have hone : ∀ g, vl'.ownBlock = some g → g ≠ hb := fun g hg ehb => by
    obtain ⟨cur, hc⟩ := hr.blk hg
    rw [ehb, k1] at hc; cases hc
  have hvcb : ∀ g, vc.ownBlock = some g → (w2.setCell ⟨hb, 0, none⟩ vl').heap[g]? = W.heap[g]? := fun g hg => by
    rw [Below.heap_setCell _ _ _ _ (fun e => n2 g hg e)]
    exact hf.block g (h.at_.2.2.lt g hg).2 (fun e => n3 g e hg)
  have hnew : ∀ g, vl'.ownBlock = some g → vl.ownBlock = some g ∨ W.heap.size ≤ g := fun g hg => by
    rcases ho with e | ⟨g', e, hle⟩
    · exact .inl (by rw [← e, hg])
    · rw [hg] at e; cases e; exact .inr hle
  refine ⟨⟨k2, hr.at_ fun g hg => Below.heap_setCell _ _ _ _ (fun e => hone g hg e), h.at_.2.2.at_ hvcb⟩, ?_, ?_, ?_, ?_⟩
  · intro b hm
    rcases List.mem_cons.1 hm with e1 | e1
    · exact h.fp_ b (by rw [e1]; exact List.mem_cons_self ..)
    · rcases List.mem_append.1 e1 with e2 | e2
      · rcases hnew b (rbH_of e2) with e3 | e3
        · exact h.fp_ b (List.mem_cons_of_mem _ (List.mem_append_left _ (rbH_mem e3)))
        · exact .inr (Nat.le_trans h.fr_.size e3)
      · exact h.fp_ b (List.mem_cons_of_mem _ (List.mem_append_right _ e2))
  · intro hm
    rcases List.mem_cons.1 hm with e1 | e1
    · exact h.eb_ (by rw [e1]; exact List.mem_cons_self ..)
    · rcases List.mem_append.1 e1 with e2 | e2
      · rcases hnew eb (rbH_of e2) with e3 | e3
        · exact h.eb_ (List.mem_cons_of_mem _ (List.mem_append_left _ (rbH_mem e3)))
        · omega
      · exact h.eb_ (List.mem_cons_of_mem _ (List.mem_append_right _ e2))
  · refine ((h.fr_.trans hf (fun i hi hs => ?_)).trans (Fr.setCell _ _ _) (fun i hi hs => ?_))
    · rcases h.fp_ i (List.mem_cons_of_mem _ (List.mem_append_left _ (rbH_mem hs))) with e1 | e1
      · exact e1
      · omega
    · have hs' : i = hb := hs
      rcases h.fp_ hb (List.mem_cons_self ..) with e1 | e1
      · rw [hs']; exact e1
      · omega
  · rw [Below.heap_setCell _ _ _ _ (fun e1 => h.eb_ (by rw [show eb = hb from e1]; exact List.mem_cons_self ..))]
    exact hf.heap h.en_ (fun e1 => h.eb_ (List.mem_cons_of_mem _ (List.mem_append_left _ (rbH_mem e1))))
/-- The commands' row is another one. -/
theorem AdV.setC {w : World} {fp : List Nat} {hb eb : Nat} {e : EntT} {W w2 : World} {L : List EntT} {C C' : List Bs} {vl vc vc' : Value} (h : AdV w fp hb eb e W L C vl vc)
    (hr : Row w2 0 9 1 vc' C'.length (C'.map str)) (hf : Fr (fun k => vc.ownBlock = some k) W w2) (ho : vc'.ownBlock = vc.ownBlock ∨ ∃ g, vc'.ownBlock = some g ∧ W.heap.size ≤ g) :
    AdV w fp hb eb e (w2.setCell ⟨hb, 1, none⟩ vc') L C' vl vc' := by
  obtain ⟨n1, n2, n3⟩ := h.at_.ne
  have hbl := lt_of_heap h.at_.1
  have hebl := lt_of_heap h.en_
  have k1 : w2.heap[hb]? = some (.cells #[vl, vc] 67 (0, 0)) := hf.heap h.at_.1 (fun e => n2 hb e rfl)
  have k2 : (w2.setCell ⟨hb, 1, none⟩ vc').heap[hb]? = some (.cells #[vl, vc'] 67 (0, 0)) := by
    have := heap_setCell_same w2 hb 1 #[vl, vc] 67 vc' k1
    simpa using this
  have hone : ∀ g, vc'.ownBlock = some g → g ≠ hb := fun g hg ehb => by
    obtain ⟨cur, hc⟩ := hr.blk hg
    rw [ehb, k1] at hc; cases hc
  have hvlb : ∀ g, vl.ownBlock = some g → (w2.setCell ⟨hb, 1, none⟩ vc').heap[g]? = W.heap[g]? := fun g hg => by
    rw [Below.heap_setCell _ _ _ _ (fun e => n1 g hg e)]
    exact hf.block g (h.at_.2.1.lt g hg).2 (n3 g hg)
  have hnew : ∀ g, vc'.ownBlock = some g → vc.ownBlock = some g ∨ W.heap.size ≤ g := fun g hg => by
    rcases ho with e | ⟨g', e, hle⟩
    · exact .inl (by rw [← e, hg])
    · rw [hg] at e; cases e; exact .inr hle
  refine ⟨⟨k2, h.at_.2.1.at_ hvlb, hr.at_ fun g hg => Below.heap_setCell _ _ _ _ (fun e => hone g hg e)⟩, ?_, ?_, ?_, ?_⟩
  · intro b hm
    rcases List.mem_cons.1 hm with e1 | e1
    · exact h.fp_ b (by rw [e1]; exact List.mem_cons_self ..)
    · rcases List.mem_append.1 e1 with e2 | e2
      · exact h.fp_ b (List.mem_cons_of_mem _ (List.mem_append_left _ e2))
      · rcases hnew b (rbH_of e2) with e3 | e3
        · exact h.fp_ b (List.mem_cons_of_mem _ (List.mem_append_right _ (rbH_mem e3)))
        · exact .inr (Nat.le_trans h.fr_.size e3)
  · intro hm
    rcases List.mem_cons.1 hm with e1 | e1
    · exact h.eb_ (by rw [e1]; exact List.mem_cons_self ..)
    · rcases List.mem_append.1 e1 with e2 | e2
      · exact h.eb_ (List.mem_cons_of_mem _ (List.mem_append_left _ e2))
      · rcases hnew eb (rbH_of e2) with e3 | e3
        · exact h.eb_ (List.mem_cons_of_mem _ (List.mem_append_right _ (rbH_mem e3)))
        · omega
  · refine ((h.fr_.trans hf (fun i hi hs => ?_)).trans (Fr.setCell _ _ _) (fun i hi hs => ?_))
    · rcases h.fp_ i (List.mem_cons_of_mem _ (List.mem_append_right _ (rbH_mem hs))) with e1 | e1
      · exact e1
      · omega
    · have hs' : i = hb := hs
      rcases h.fp_ hb (List.mem_cons_self ..) with e1 | e1
      · rw [hs']; exact e1
      · omega
  · rw [Below.heap_setCell _ _ _ _ (fun e1 => h.eb_ (by rw [show eb = hb from e1]; exact List.mem_cons_self ..))]
    exact hf.heap h.en_ (fun e1 => h.eb_ (List.mem_cons_of_mem _ (List.mem_append_right _ (rbH_mem e1))))
/-- What Add makes of a history. -/
def addP1 (l : List EntT) (e : EntT) : List EntT := if 6 < (usesE (l ++ [e]) e.c).length then (l ++ [e]).eraseIdx ((l ++ [e]).findIdx fun x => decide (x.c = e.c)) else l ++ [e]
def cmdsP (c : List Bs) (e : EntT) : List Bs := (c.filter fun x => !decide (x = e.c)) ++ [e.c]
def headC (c : List Bs) : Bs := c.headD []
def addPL (l : List EntT) (c : List Bs) (e : EntT) : List EntT := if rightE e = true then (if (cmdsP c e).length ≤ 40 then addP1 l e else (addP1 l e).filter fun x => !decide (x.c = headC (cmdsP c e))) else l
def addPC (c : List Bs) (e : EntT) : List Bs := if rightE e = true then (if (cmdsP c e).length ≤ 40 then cmdsP c e else (cmdsP c e).tail) else c
def goneP (c : List Bs) (e : EntT) : List Bs := if rightE e = true then (if (cmdsP c e).length ≤ 40 then [] else [headC (cmdsP c e)]) else []
def codeP (e : EntT) : Int := if rightE e = true then 0 else 160
def HAddPost (w : World) (hb : Nat) (l : List EntT) (c : List Bs) (fp : List Nat) (e : EntT) (x : Ending) (w' : World) : Prop :=
  ∃ A1 c1 fp', x = .returned (.tuple #[.slice A1 (goneP c e).length c1, .int .i64 (codeP e)]) ∧ Row w' w.heap.size 9 1 (.slice A1 (goneP c e).length c1) (goneP c e).length ((goneP c e).map str) ∧
    Hi w' hb (addPL l c e) (addPC c e) fp' ∧ Fr (fun b => b ∈ fp) w w' ∧ ∀ b ∈ fp', b ∈ fp ∨ w.heap.size ≤ b
end Go.Proofs.YtpemjhghiccngaaDoor
