import Derived.Test.YtkpfendodmfeoaaTw8
namespace Go.Proofs.Ytkpfendodmfeoaa
set_option linter.unusedVariables false
set_option linter.unusedSimpArgs false
open Go.RowKit
theorem F.Many.nth {β : Type} : {f : F β} → {k : Nat} → {y : Nd β} → f.Many → f.nth k = some y → y.many = y.ents.length ∧ y.kids.Many ∧ y.ents.length ≤ f.ents.length
  | .nil, _, _, _, h => by simp [F.nth] at h
  | .cons e i v m k r, 0, y, ⟨h1, h2, _⟩, h => by
      simp only [F.nth] at h
      cases h
      exact ⟨h1, h2, by rw [F.ents, List.length_append]; simp [pre, Nd.ents]⟩
  | .cons e i v m k r, j + 1, y, ⟨_, _, h3⟩, h => by
      obtain ⟨a, b, c⟩ := F.Many.nth (f := r) (k := j) h3 h
      exact ⟨a, b, by rw [F.ents, List.length_append]; omega⟩
theorem cutN_many {y : Nd V} {s : Bs} (h1 : y.many = y.ents.length) (h2 : y.kids.Many) : (cutN y s).many = (cutN y s).ents.length ∧ (cutN y s).kids.Many ∧ (cutN y s).ents.length = y.ents.length := by
  have e : (cutN y s).ents.length = y.ents.length := by
    have := congrArg List.length (cutN_ents y s)
    simpa [pre] using this
  refine ⟨?_, ?_, e⟩
  · rw [e, ← h1]; unfold cutN; split <;> rfl
  · unfold cutN
    split
    · exact ⟨h1, h2, trivial⟩
    · exact h2
theorem cutN_wf {y : Nd V} {s : Bs} (h : y.kids.WF) {M : Nat} (hS : y.kids.Short M) : (cutN y s).kids.WF ∧ (cutN y s).kids.Short (y.edge.length + M) := by
  unfold cutN
  split
  · rename_i hc
    exact ⟨one_wf _ _ _ (List.length_pos_iff.1 (by rw [List.length_drop]; omega)) h, by show (y.edge.drop _).length ≤ _; rw [List.length_drop]; omega, hS.mono (by rw [List.length_drop]; omega), trivial⟩
  · exact ⟨h, hS.mono (by omega)⟩
/-- What a Put leaves. -/
def PutPost (w : World) (tb : Nat) (y : Nd V) (fp : List Nat) (w' : World) : Prop := ∃ fp', TrieAt encV w' tb y fp' ∧ (∀ b ∈ fp', b ∈ fp ∨ w.heap.size ≤ b) ∧ Fr (fun b => b ∈ fp) w w'
/-- What is right once a node is what a put makes of it. -/
def Wand (had : Bool) (n : Nd V) (t : Bs) (v : V) (a : Nat) (fa : List Nat) (wr : World) (G : World → Prop) : Prop :=
  ∀ w' fa', RepN encV w' (putN zeroV had n t v) a fa' → fa'.Nodup → (∀ b ∈ fa', b ∈ fa ∨ wr.heap.size ≤ b) → Fr (fun b => b ∈ fa) wr w' → G w'
/-- A round's state. -/
def PutInv (had : Bool) (v : V) (G : World → Prop) (a : Nat) (n : Nd V) (fa : List Nat) (t : Bs) (wr : World) : Prop :=
  RepN encV wr n a fa ∧ fa.Nodup ∧ n.kids.WF ∧ (∃ M, n.kids.Short M ∧ M ≤ 4294967296) ∧ t.length ≤ 4294967296 ∧ n.many = n.ents.length ∧ n.kids.Many ∧ n.ents.length ≤ 4294967296 ∧ (lget n.ents t).isSome = had ∧ Wand had n t v a fa wr G
theorem ents_put {had : Bool} {n : Nd V} {t : Bs} : True := trivial
/-- The next round's state: the node below, split or not. -/
theorem PutInv.next {had : Bool} {v : V} {G : World → Prop} {a : Nat} {n : Nd V} {fa : List Nat} {t : Bs} {wr : World} (h : PutInv had v G a n fa t wr) (ht : t ≠ [])
    {W1 : World} (hF1 : Fr (fun b => b ∈ fa) wr W1) {K : F V} {fb : List Nat} (hfb : ∀ b ∈ fb, b ∈ fa ∨ wr.heap.size ≤ b) {j : Nat} {y : Nd V}
    (hput : putF zeroV had n.kids t v = K.set j (putN zeroV had (cutN y t) (t.drop (com y.edge t)) v))
    {a2 : Nat} {f2 : List Nat} (hf2 : ∀ b ∈ f2, b ∈ fb) (hnd2 : f2.Nodup)
    (hwand : ∀ (w' : World) (y' : Nd V) (f2' : List Nat), RepN encV w' y' a2 f2' → f2'.Nodup → (∀ b ∈ f2', b ∈ f2 ∨ W1.heap.size ≤ b) → Fr (fun b => b ∈ f2) W1 w' →
        ∃ fb', RepN encV w' ⟨n.edge, n.is, n.v, δ had n.many, K.set j y'⟩ a fb' ∧ fb'.Nodup ∧ ∀ b ∈ fb', b ∈ fb ∨ W1.heap.size ≤ b)
    (hyW : y.kids.WF) {M : Nat} (hyS : y.kids.Short M) (hM : y.edge.length + M ≤ 4294967296) (hym : y.many = y.ents.length) (hyk : y.kids.Many) (hyl : y.ents.length ≤ 4294967296)
    (hlg : lget n.ents t = lget (cutN y t).ents (t.drop (com y.edge t)))
    {W3 : World} {f3 : List Nat} (hr3 : RepN encV W3 (cutN y t) a2 f3) (hn3 : f3.Nodup) (hs3 : ∀ b ∈ f3, b ∈ f2 ∨ W1.heap.size ≤ b) (hF3 : Fr (fun b => b ∈ f2) W1 W3) :
    PutInv had v G a2 (cutN y t) f3 (t.drop (com y.edge t)) W3 := by
  obtain ⟨h1, h2, h3, h4, h5, h6, h7, h8, h9, h10⟩ := h
  obtain ⟨c1, c2⟩ := cutN_wf (s := t) hyW hyS
  obtain ⟨m1, m2, m3⟩ := cutN_many (s := t) hym hyk
  refine ⟨hr3, hn3, c1, ⟨_, c2, hM⟩, by rw [List.length_drop]; omega, m1, m2, by rw [m3]; exact hyl, by rw [← hlg]; exact h9, fun w' f4 hr4 hn4 hs4 hF4 => ?_⟩
  have hF : Fr (fun b => b ∈ f2) W1 w' := hF3.trans hF4 fun i hi hm => by
    rcases hs3 i hm with e | e
    · exact e
    · omega
  obtain ⟨fb', k1, k2, k3⟩ := hwand w' _ f4 hr4 hn4 (fun b hb => by
    rcases hs4 b hb with e | e
    · exact hs3 b e
    · exact .inr (Nat.le_trans hF3.size e)) hF
  refine h10 w' fb' ?_ k2 (fun b hb => ?_) (hF1.trans hF fun i hi hm => ?_)
  · unfold putN
    rw [if_neg ht, hput]
    exact k1
  · rcases k3 b hb with e | e
    · exact hfb b e
    · exact .inr (Nat.le_trans hF1.size e)
  · rcases hfb i (hf2 i hm) with e | e
    · exact e
    · omega
end Go.Proofs.Ytkpfendodmfeoaa
