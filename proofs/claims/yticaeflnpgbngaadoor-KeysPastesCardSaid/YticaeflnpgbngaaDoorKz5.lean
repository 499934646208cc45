import Derived.Test.YticaeflnpgbngaaDoorKz4
import Derived.Laws.StructEq
namespace Go.Proofs.YticaeflnpgbngaaDoor
set_option linter.unusedVariables false
set_option linter.unusedSimpArgs false
open Go.RowKit Go.Maps
/-! Keys are compared; two decoders. -/
theorem eq_fieldsI {P : Program} {ts ti : TypeId} (f g : Field) (hf : f.type = ti ∧ f.offset = 0 ∧ f.name ≠ "_") (hg : g.type = ts ∧ g.offset = 1 ∧ g.name ≠ "_") (h1 : P.underlying ts = some .string) (h2 : P.underlying ti = some (.int .i64))
    (x y : ByteArray) (n m : Int) (W : World) : (Op.eqFields 9999 #[.int .i64 n, .string x] #[.int .i64 m, .string y] [f, g]).run P W = .ok (n == m && x.toList == y.toList) W := by
  obtain ⟨rfl, ho, hn⟩ := hf
  obtain ⟨rfl, go, gn⟩ := hg
  have p1 : ∀ u v W, (part f.type #[u, v] f.offset).run P W = .ok u W := fun u v W => by rw [ho]; simp [part, isAgg, run_underlying h2, go_sem]
  have p2 : ∀ u v W, (part g.type #[u, v] g.offset).run P W = .ok v W := fun u v W => by rw [go]; simp [part, isAgg, run_underlying h1, go_sem]
  simp only [Op.eqFields, hn, gn, ne_eq, not_false_eq_true, if_true, Sem.run_bind, p1, p2, Result.andThen_ok, run_equalIn_string W 9998 g.type x y h1, run_equalIn_int W 9998 f.type .i64 .i64 n m h2]
  cases hc : (n == m) with
  | false => simp
  | true =>
    simp only [Bool.not_true, Bool.false_eq_true, if_false, Sem.run_bind, p2, Result.andThen_ok, run_equalIn_string W 9998 g.type x y h1, Bool.true_and]
    cases hd : (x.toList == y.toList) <;> simp
theorem Tryd.neq_key (x : ByteArray) (n : Int) (W : World) : (binOp .neq 46 (.agg #[.int .i64 n, .string x]) (.agg #[.int .i64 n, .string x])).run Tryd.prog W = .ok (.bool false) W := by
  obtain ⟨f, g, hfg, hf, hg⟩ : ∃ f g : Field, (Tryd.prog.fieldsOf 46).toList = [f, g] ∧ (f.type = 3 ∧ f.offset = 0 ∧ f.name = "Kind") ∧ (g.type = 9 ∧ g.offset = 1 ∧ g.name = "Text") := ⟨⟨"Kind", 3, 0, false, "", "", 0⟩, ⟨"Text", 9, 1, false, "", "", 8⟩, by kernel_rfl, ⟨rfl, rfl, rfl⟩, ⟨rfl, rfl, rfl⟩⟩
  rw [run_neq_struct, run_equalIn_agg W 9999 _ _ _ (by kernel_rfl) (by kernel_rfl), hfg, eq_fieldsI f g ⟨hf.1, hf.2.1, by rw [hf.2.2]; decide⟩ ⟨hg.1, hg.2.1, by rw [hg.2.2]; decide⟩ Tryd.underlying9 Tryd.underlying3]
  simp
theorem Tryd.eq_key (x : ByteArray) (n : Int) (W : World) : (binOp .eql 46 (.agg #[.int .i64 n, .string x]) (.agg #[.int .i64 n, .string x])).run Tryd.prog W = .ok (.bool true) W := by
  obtain ⟨f, g, hfg, hf, hg⟩ : ∃ f g : Field, (Tryd.prog.fieldsOf 46).toList = [f, g] ∧ (f.type = 3 ∧ f.offset = 0 ∧ f.name = "Kind") ∧ (g.type = 9 ∧ g.offset = 1 ∧ g.name = "Text") := ⟨⟨"Kind", 3, 0, false, "", "", 0⟩, ⟨"Text", 9, 1, false, "", "", 8⟩, by kernel_rfl, ⟨rfl, rfl, rfl⟩, ⟨rfl, rfl, rfl⟩⟩
  rw [run_eql_struct, run_equalIn_agg W 9999 _ _ _ (by kernel_rfl) (by kernel_rfl), hfg, eq_fieldsI f g ⟨hf.1, hf.2.1, by rw [hf.2.2]; decide⟩ ⟨hg.1, hg.2.1, by rw [hg.2.2]; decide⟩ Tryd.underlying9 Tryd.underlying3]
  simp
theorem Tryd.neq_rkey (x : ByteArray) (n : Int) (W : World) : (binOp .neq 54 (.agg #[.int .i64 n, .string x]) (.agg #[.int .i64 n, .string x])).run Tryd.prog W = .ok (.bool false) W := by
  obtain ⟨f, g, hfg, hf, hg⟩ : ∃ f g : Field, (Tryd.prog.fieldsOf 54).toList = [f, g] ∧ (f.type = 3 ∧ f.offset = 0 ∧ f.name = "Kind") ∧ (g.type = 9 ∧ g.offset = 1 ∧ g.name = "Text") := ⟨⟨"Kind", 3, 0, false, "", "", 0⟩, ⟨"Text", 9, 1, false, "", "", 8⟩, by kernel_rfl, ⟨rfl, rfl, rfl⟩, ⟨rfl, rfl, rfl⟩⟩
  rw [run_neq_struct, run_equalIn_agg W 9999 _ _ _ (by kernel_rfl) (by kernel_rfl), hfg, eq_fieldsI f g ⟨hf.1, hf.2.1, by rw [hf.2.2]; decide⟩ ⟨hg.1, hg.2.1, by rw [hg.2.2]; decide⟩ Tryd.underlying9 Tryd.underlying3]
  simp
def Ses2 (w : World) (a : Nat) (d : Dc) (b : Nat) (e : Dc) (W : World) : Prop := ∃ fp fq, Di W a d fp ∧ Di W b e fq ∧ (∀ k ∈ fp, k ∉ fq) ∧ (∀ k ∈ fp, w.heap.size ≤ k) ∧ (∀ k ∈ fq, w.heap.size ≤ k) ∧ Below w.heap.size w W
theorem Ses2.swap {w : World} {a b : Nat} {d e : Dc} {W : World} (h : Ses2 w a d b e W) : Ses2 w b e a d W := by
  obtain ⟨fp, fq, h1, h2, h3, h4, h5, h6⟩ := h
  exact ⟨fq, fp, h2, h1, fun k hk hk2 => h3 k hk2 hk, h5, h4, h6⟩
theorem Ses2.below {w : World} {a b : Nat} {d e : Dc} {W : World} (h : Ses2 w a d b e W) : Below w.heap.size w W := by obtain ⟨_, _, _, _, _, _, _, h⟩ := h; exact h
theorem Ses2.later {w : World} {a b : Nat} {d e : Dc} {W W' : World} (h : Ses2 w a d b e W) (hb : Below W.heap.size W W') : Ses2 w a d b e W' := by
  obtain ⟨fp, fq, h1, h2, h3, h4, h5, h6⟩ := h
  exact ⟨fp, fq, h1.later hb, h2.later hb, h3, h4, h5, h6.trans (hb.mono h6.size)⟩
theorem Ses2.new (w : World) : Ses2 w w.heap.size Dc.new (w.heap.size + 1) Dc.new ((w.alloc (.cells decZ 29)).alloc (.cells decZ 29)) := by
  refine ⟨[w.heap.size], [w.heap.size + 1], ⟨.slice none 0 0, .slice none 0 0, ⟨?_, Row.nil _ _ _ _, Row.nil _ _ _ _, fun g e => by simp [Value.ownBlock] at e⟩, rfl⟩, ⟨.slice none 0 0, .slice none 0 0, ⟨?_, Row.nil _ _ _ _, Row.nil _ _ _ _, fun g e => by simp [Value.ownBlock] at e⟩, rfl⟩, by simp, by simp, by simp, ((Below.refl _ _).alloc (Nat.le_refl _) _).alloc (by simp) _⟩
  · rw [Below.heap_alloc _ _ _ (by simp)]
    exact heap_alloc_new w _
  · have := heap_alloc_new (w.alloc (.cells decZ 29)) (.cells decZ 29)
    rwa [World.size_alloc] at this
/-- What a call does to the first of two decoders. -/
def TellsS2 (w : World) (a b : Nat) (e0 : Dc) (W : World) (o : Out) (e : Ending) (W' : World) : Prop := ∃ v, e = .returned v ∧ RowK W' W.heap.size v o.1 ∧ Ses2 w a o.2 b e0 W' ∧ (∀ B v l, RowK W B v l → RowK W' B v l) ∧ W.heap.size ≤ W'.heap.size
theorem TellsS2.of {w : World} {a b : Nat} {d e0 : Dc} {W W' : World} {fp fq : List Nat} {o : Out} {e : Ending} (h1 : Di W a d fp) (h2 : Di W b e0 fq) (h3 : ∀ k ∈ fp, k ∉ fq) (h4 : ∀ k ∈ fp, w.heap.size ≤ k) (h5 : ∀ k ∈ fq, w.heap.size ≤ k) (h6 : Below w.heap.size w W) (h : TellsK W a fp o e W') : TellsS2 w a b e0 W o e W' := by
  obtain ⟨v, he, hr, hm⟩ := h
  refine ⟨v, he, hr, ?_, fun B v l hv => Mv.row h1 hm hv, hm.size⟩
  obtain ⟨fp', hd, hf, hm'⟩ := hm
  refine ⟨fp', fq, hd, h2.move fun k hk => hf.block k (h2.lt k hk) fun e => h3 k e hk, fun k hk hk2 => ?_, fun k hk => ?_, h5, ((Fr.of_below h6).trans hf fun i _ e => h4 i e).below (Nat.le_refl _) fun k _ e => e⟩
  · rcases hm' k hk with e | e
    · exact h3 k e hk2
    · exact absurd (h2.lt k hk2) (by omega)
  · rcases hm' k hk with e | e
    · exact h4 k e
    · exact Nat.le_trans h6.size e
theorem s2Feed_calls {w : World} {a b : Nat} {d e0 : Dc} {W1 W : World} (h : Ses2 w a d b e0 W1) (hW : Below W1.heap.size W1 W) (hU : U8 w) {bb : Bs} (hr : RelD d bb) (A : Option Addr) (c : Nat) (l : Bs) (hA : RdB W A l) (hoff : ∀ x, A = some x → l ≠ [] → x.block < w.heap.size ∨ W1.heap.size ≤ x.block) (hb : bb.length + l.length ≤ 80000) :
    Calls Tryd.prog 21 #[dptr a, .slice A l.length c] W (TellsS2 w a b e0 W (feedD d l)) := by
  obtain ⟨fp, fq, h1, h2, h3, h4, h5, h6⟩ := h
  have h7 := h6.trans (hW.mono h6.size)
  refine (kFeed_calls (h1.later hW) hr A c l hA (fun x hx hne hm => ?_) hb (U8.fr hU h4 h7)).mono fun e W' h => TellsS2.of (h1.later hW) (h2.later hW) h3 h4 h5 h7 h
  have h8 := h4 _ hm
  have h9 := h1.lt _ hm
  rcases hoff x hx hne with e | e <;> omega
theorem s2Waits_calls {w : World} {a b : Nat} {d e0 : Dc} {W : World} (h : Ses2 w a d b e0 W) : Calls Tryd.prog 18 #[dptr a] W fun e W' => e = .returned (.bool (waitsD d)) ∧ W = W' := by
  obtain ⟨fp, fq, h1, _⟩ := h
  exact WaitsD_calls h1
end Go.Proofs.YticaeflnpgbngaaDoor
