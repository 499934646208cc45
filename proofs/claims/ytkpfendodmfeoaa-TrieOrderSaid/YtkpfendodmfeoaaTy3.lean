import Derived.Test.YtkpfendodmfeoaaTy2
namespace Go.Proofs.Ytkpfendodmfeoaa
set_option linter.unusedVariables false
set_option linter.unusedSimpArgs false
open Go.RowKit Go.Shelf
attribute [local go_sem] Oper.semAt_some
/-- Keys, each with a blank behind it. -/
def joinK (l : Ents V) : Bs := l.flatMap fun q => q.1 ++ [32]
theorem joinK_add (l : Ents V) (q : Bs × V) : joinK (l ++ [q]) = joinK l ++ (q.1 ++ [32]) := by simp [joinK]
theorem joinK_le : (xs : List Kl) → (joinK (vals xs)).length ≤ xs.length * 4294967297
  | [] => by simp [joinK, vals]
  | x :: xs => by
      have h := joinK_le xs
      have hx := x.2
      have e : joinK (vals (x :: xs)) = (x.1.1 ++ [32]) ++ joinK (vals xs) := by simp [joinK, vals]
      rw [e]
      simp only [List.length_append, List.length_cons, List.length_nil]
      omega
theorem add_big {a b : ByteArray} {l m : Bs} (ha : a = ⟨l.toArray⟩) (hb : b = ⟨m.toArray⟩) (h : l.length + m.length ≤ 1099511627776) (W : World) : (Op.stringOp .add a b).run Try.prog W = .ok (.string ⟨(l ++ m).toArray⟩) W := by
  subst ha; subst hb
  rw [run_string_add_sum (P := Try.prog) W _ _ (by rw [str_of, str_of]; omega), ByteArray.mk_append_mk]
/-- What stands in alive's rounds. -/
structure AlI (W0 : World) (b8 : Nat) (pre : List Kl) (W : World) : Prop where
  fr : Fr (fun b => b = b8) W0 W
  box : W.heap[b8]? = some (.cells #[str (joinK (vals pre))] 9 (0, 0))
theorem AlI.own {W0 : World} {b8 B : Nat} (hB : W0.heap.size ≤ B) : OwnFrom B (AlI W0 b8) := fun s W W' row h hg hr =>
  ⟨fr_own (β := Unit) hB () W W' row h.fr hg hr, (cells_same hg (fun r e => (hr r e).2) h.box).trans h.box⟩
theorem tr_step {w wa wb : World} {f f' : List Nat} (hb : Below w.heap.size w wa) (hf : ∀ b ∈ f, w.heap.size ≤ b) (hs : ∀ b ∈ f', b ∈ f ∨ wa.heap.size ≤ b) (hF : Fr (fun b => b ∈ f) wa wb) : Below w.heap.size w wb ∧ ∀ b ∈ f', w.heap.size ≤ b :=
  ⟨hb.trans (hF.below hb.size fun k _ hk => hf k hk), fun b h => by rcases hs b h with e | e; exact hf b e; exact Nat.le_trans hb.size e⟩
theorem tr_dr {w wa wb : World} (hb : Below w.heap.size w wa) (hd : Dr wa wb) : Below w.heap.size w wb := by obtain ⟨n, rfl⟩ := hd; exact ⟨hb.os, hb.tape, hb.output, hb.size, hb.block⟩
set_option maxRecDepth 100000 in
set_option maxHeartbeats 3200000 in
/-- alive. -/
theorem alive_calls (w : World) : Calls Try.prog 10 #[] w fun e w' => e = .returned (.bool true) ∧ Below w.heap.size w w' := by
  obtain ⟨K1, K2, K3, K4, K5⟩ := a_keys 100 (by decide)
  have HKK := Lib.hid (And.intro K1 (And.intro K2 (And.intro K3 (And.intro K4 K5))))
  clear K1 K2 K3 K4 K5
  refine (callsIn_wide (n := 3)).1 ?_
  refine callsIn_of_wp_marks Try.func10 rfl trivial ?_ rfl
  simp only [Try.ntmps10, List.size_toArray, List.length_cons, List.length_nil, Nat.reduceAdd, Nat.reduceSub, Array.replicate_succ, Array.replicate_zero, List.push_toArray, List.append_toArray, List.nil_append, List.cons_append]
  gi_wp2_with (refine ⟨trivial, ?_⟩; gi_at_call 11; refine (callsIn_wide.2 (TNew_calls _)).mono ?_; rintro e w1 ⟨tb, f0, rfl, hT0, hf0, hb0⟩)
  have q1 := TPut_calls w1 tb [] f0 hT0 100 (by omega) (fun q hq => by cases hq) (by simp) ⟨#[103, 105, 116]⟩ kGit rfl (show 3 ≤ 4294967296 by omega) 1
  rw [a_put1.1, a_put1.2] at q1
  have Q1 := Lib.hid q1
  clear q1
  refine ⟨trivial, ?_⟩
  gi_at_call 12
  refine (callsIn_wide.2 Q1.out).mono ?_
  rintro e w2 ⟨rfl, f1, hT1, hs1, hF1⟩
  gi_wp2_with fail
  have q2 := TPut_calls w2 tb aL1 f1 hT1 100 (by omega) HKK.out.1 (by show 1 ≤ 4294967296; omega) ⟨#[103, 105, 116, 107]⟩ kGitk rfl (show 4 ≤ 4294967296 by omega) 2
  rw [a_put2.1, a_put2.2] at q2
  have Q2 := Lib.hid q2
  clear q2
  refine ⟨trivial, ?_⟩
  gi_at_call 12
  refine (callsIn_wide.2 Q2.out).mono ?_
  rintro e w3 ⟨rfl, f2, hT2, hs2, hF2⟩
  gi_wp2_with fail
  have q3 := TPut_calls w3 tb aL2 f2 hT2 100 (by omega) HKK.out.2.1 (by show 2 ≤ 4294967296; omega) ⟨#[103, 111]⟩ kGo rfl (show 2 ≤ 4294967296 by omega) 3
  rw [a_put3.1, a_put3.2] at q3
  have Q3 := Lib.hid q3
  clear q3
  refine ⟨trivial, ?_⟩
  gi_at_call 12
  refine (callsIn_wide.2 Q3.out).mono ?_
  rintro e w4 ⟨rfl, f3, hT3, hs3, hF3⟩
  gi_wp2_with fail
  have q4 := TPut_calls w4 tb aL3 f3 hT3 100 (by omega) HKK.out.2.2.1 (by show 3 ≤ 4294967296; omega) ⟨#[103, 111]⟩ kGo rfl (show 2 ≤ 4294967296 by omega) 4
  rw [a_put4.1, a_put4.2] at q4
  have Q4 := Lib.hid q4
  clear q4
  refine ⟨trivial, ?_⟩
  gi_at_call 12
  refine (callsIn_wide.2 Q4.out).mono ?_
  rintro e w5 ⟨rfl, f4, hT4, hs4, hF4⟩
  gi_wp2_with fail
  have q5 := TGet_calls w5 tb aL4 f4 hT4 100 (by omega) HKK.out.2.2.2.1 ⟨#[103, 111]⟩ kGo rfl (show 2 ≤ 4294967296 by omega)
  rw [a_get] at q5
  have Q5 := Lib.hid q5
  clear q5
  refine ⟨trivial, ?_⟩
  gi_at_call 21
  refine (callsIn_wide.2 Q5.out).mono ?_
  rintro e w6 ⟨rfl, hD6⟩
  rw [show gotV encV (some 4) = .int .i64 4 from rfl]
  gi_wp2_with (refine ⟨trivial, ?_⟩; gi_at_call 26; refine (callsIn_wide.2 (Under_calls _ _ _)).mono ?_; rintro e w' ⟨rfl, rfl⟩)
  obtain ⟨B2, F1⟩ := tr_step hb0 hf0 hs1 hF1
  obtain ⟨B3, F2⟩ := tr_step B2 F1 hs2 hF2
  obtain ⟨B4, F3⟩ := tr_step B3 F2 hs3 hF3
  obtain ⟨B5, F4⟩ := tr_step B4 F3 hs4 hF4
  have B6 := tr_dr B5 hD6
  have hT6 := hT4.dr hD6
  clear B2 F1 B3 F2 B4 F3 B5 hs1 hs2 hs3 hs4 hF1 hF2 hF3 hF4 hD6 hT0 hT1 hT2 hT3 hT4 hf0 hb0 Q1 Q2 Q3 Q4 Q5
  obtain ⟨W0, hW0⟩ : ∃ W0, W0 = (((w6.alloc (.cells #[.string ⟨#[]⟩] 9)).alloc (.cells #[.pointer (some ⟨tb, 0, none⟩)] 24)).alloc (.cells #[.string ⟨#[103, 105]⟩] 9)) := ⟨_, rfl⟩
  have hsz0 : W0.heap.size = w6.heap.size + 1 + 1 + 1 := by rw [hW0]; simp
  have hB0 : Below w6.heap.size w6 W0 := by rw [hW0]; exact (((Below.refl _ w6).alloc (Nat.le_refl _) _).alloc (by simp) _).alloc (by simp; omega) _
  have b1 : W0.heap[w6.heap.size]? = some (.cells #[.string ⟨#[]⟩] 9 (0, 0)) := by
    rw [hW0]
    exact (Below.heap_alloc _ _ _ (by simp; omega)).trans ((Below.heap_alloc _ _ _ (by simp)).trans (heap_alloc_new w6 _))
  have b2 : W0.heap[w6.heap.size + 1]? = some (.cells #[.pointer (some ⟨tb, 0, none⟩)] 24 (0, 0)) := by
    rw [hW0]
    refine (Below.heap_alloc _ _ _ (by simp)).trans ?_
    have := heap_alloc_new (w6.alloc (.cells #[.string ⟨#[]⟩] 9)) (.cells #[.pointer (some ⟨tb, 0, none⟩)] 24)
    rwa [World.size_alloc] at this
  have b3 : W0.heap[w6.heap.size + 1 + 1]? = some (.cells #[.string ⟨#[103, 105]⟩] 9 (0, 0)) := by
    rw [hW0]
    have := heap_alloc_new ((w6.alloc (.cells #[.string ⟨#[]⟩] 9)).alloc (.cells #[.pointer (some ⟨tb, 0, none⟩)] 24)) (.cells #[.string ⟨#[103, 105]⟩] 9)
    rwa [World.size_alloc, World.size_alloc] at this
  have hbw : Below w.heap.size w W0 := B6.trans (hB0.mono B6.size)
  have hltw := hT6.lt
  have hT : Tr W0 tb aL4 f4 := hT6.move fun b hb => hB0.block b (hltw b hb)
  rw [← hW0]
  clear hW0 hT6
  have hw6 := B6.size
  have HT := Lib.hid hT
  have HBW := Lib.hid hbw
  clear hT hbw hB0 B6
  refine wpIn_rangeFunc_ownG rfl (by omega) (gf := 40) (lb := #[.pointer (some ⟨w6.heap.size + 1, 0, none⟩), .pointer (some ⟨w6.heap.size + 1 + 1, 0, none⟩)]) rfl trivial (enters_of Try.func40 (by kernel_rfl) rfl)
    (under_stops (3 - 1) (by omega) tb (w6.heap.size + 1) (w6.heap.size + 1 + 1) aL4 f4 kGi ⟨#[103, 105]⟩ rfl 100 (by omega) HKK.out.2.2.2.1 (show 2 ≤ 1073741824 by omega) W0 HT.out b2 b3) KpU.t' (KpU.b (fun b hb => by rcases hb with h | h | h; (have := hltw b h; omega); omega; omega)) (Below.refl _ _) (fun _ => rfl)
    (AlI W0 w6.heap.size)
    (fun _ _ _ => False)
    (AlI.own (Nat.le_refl _))
    (fun _ _ _ _ _ hs _ _ => hs)
    ⟨Fr.refl _ _, b1⟩
    (fun x : Kl => { tmps := #[.bool false, .pointer (some ⟨tb, 0, none⟩), .bool true, .bool true, .bool true, .bool false, .int .i64 4, .bool true, .pointer (some ⟨w6.heap.size, 0, none⟩), str x.1.1, undef, undef, undef, .pointer (some ⟨tb, 0, none⟩), .pointer (some ⟨tb, 0, none⟩), .bool false, .pointer (some ⟨tb, 0, none⟩), .bool true, .pointer (some ⟨tb, 0, none⟩), .bool true, .pointer (some ⟨tb, 0, none⟩), .bool true, .pointer (some ⟨tb, 0, none⟩), .bool false, .tuple #[.int .i64 4, .bool true], .pointer (some ⟨tb, 0, none⟩), .tuple #[.int .i64 4, .bool true], .int .i64 4, .bool true, .pointer (some ⟨tb, 0, none⟩), .func (.func 40) #[] #[.pointer (some ⟨w6.heap.size + 1, 0, none⟩), .pointer (some ⟨w6.heap.size + 1 + 1, 0, none⟩)], str x.1.1, encV x.1.2, undef, undef, undef, undef, undef, undef, undef, undef, undef, undef, undef, undef, undef, undef, undef, undef, undef, undef, undef, undef, undef, undef, undef, undef, undef, undef, undef, undef, undef, undef, undef, undef, undef, undef, undef, undef, undef, undef, undef, undef, undef, undef, undef, undef, undef, undef, undef, undef, undef, undef, undef, undef, undef, undef, undef, undef, undef, undef, undef, undef, undef, undef, undef, undef, undef, undef, undef, undef], defers := [] }) ?assign ?body ?done ?stop
  case assign =>
    intro yl x W K hK
    unfold encK encE
    gi_wp2
    exact hK
  case body =>
    rintro yl pr x W hI hlt
    have d3 : W.cell? ⟨w6.heap.size, 0, none⟩ = some (str (joinK (vals pr))) := by rw [cell_of_row W _ _ _ _ (0, 0) hI.box]; rfl
    have d6 : W.frozen? ⟨w6.heap.size, 0, none⟩ = false := frozen_of_row W _ 0 _ _ hI.box
    obtain ⟨s0, hs0⟩ : ∃ s : ByteArray, s = ⟨(joinK (vals pr)).toArray⟩ := ⟨_, rfl⟩
    obtain ⟨sx, hsx⟩ : ∃ s : ByteArray, s = ⟨x.1.1.toArray⟩ := ⟨_, rfl⟩
    obtain ⟨s2, hs2⟩ : ∃ s : ByteArray, s = ⟨(x.1.1 ++ [32]).toArray⟩ := ⟨_, rfl⟩
    obtain ⟨s3, hs3⟩ : ∃ s : ByteArray, s = ⟨(joinK (vals pr) ++ (x.1.1 ++ [32])).toArray⟩ := ⟨_, rfl⟩
    have hx4 := x.2
    have hjl := joinK_le pr
    have hlu : (lunder aL4 kGi).length = 2 := by rw [a_under]; rfl
    have r1 := add_big hsx (rfl : (⟨#[32]⟩ : ByteArray) = ⟨[32].toArray⟩) (by simp; omega)
    have r2 := add_big hs0 hs2 (by simp; omega)
    rw [← hs2] at r1
    rw [← hs3] at r2
    rw [show str (joinK (vals pr)) = .string s0 from lit_of hs0] at d3
    rw [show str x.1.1 = .string sx from lit_of hsx]
    have HI := Lib.hid hI
    have HS3 := Lib.hid hs3
    clear hI hs0 hsx hs2 hs3 hjl hx4
    gi_wp2
    refine ⟨(KeepsOthers.setCell W ⟨w6.heap.size, 0, none⟩ _).from _, KpU.of_fr (Fr.setCell W ⟨w6.heap.size, 0, none⟩ _) (fun b hb => ?_) (fun b hb => ?_), ?_, ?_⟩
    · have hws := HI.out.fr.size
      rcases hb with h | h | h
      · have := hltw b h; exact ⟨by omega, fun e => by have e : b = w6.heap.size := e; omega⟩
      · exact ⟨by omega, fun e => by have e : b = w6.heap.size := e; omega⟩
      · exact ⟨by omega, fun e => by have e : b = w6.heap.size := e; omega⟩
    · rw [show b = w6.heap.size from hb]
      exact ⟨_, _, HI.out.box, by decide, by decide⟩
    · exact HI.out.fr.trans (Fr.setCell W ⟨w6.heap.size, 0, none⟩ _) fun _ _ e => e
    · have := heap_setCell_same W w6.heap.size 0 _ _ (.string s3) HI.out.box
      rw [show vals (pr ++ [x]) = vals pr ++ [x.1] by simp [vals], joinK_add, show str (joinK (vals pr) ++ (x.1.1 ++ [32])) = .string s3 from lit_of HS3.out]
      exact this
  case done =>
    rintro D ys W hD hys hI hK2
    have hc : W.cell? ⟨w6.heap.size, 0, none⟩ = some (.string ⟨#[103, 105, 116, 32, 103, 105, 116, 107, 32]⟩) := by
      rw [cell_of_row W _ _ _ _ (0, 0) hI.box, hys, a_under]; rfl
    have hTW : Tr W tb aL4 f4 := HT.out.move fun b hb => by
      have := hltw b hb
      exact hI.fr.block b (by omega) (by omega)
    have hfr := hI.fr
    have hWb : Below w.heap.size w W := ⟨hfr.os.trans HBW.out.os, hfr.tape.trans HBW.out.tape, hfr.output.trans HBW.out.output, Nat.le_trans HBW.out.size hfr.size, fun k hk => (hfr.block k (by have := HBW.out.size; omega) (fun e => by have e : k = w6.heap.size := e; omega)).trans (HBW.out.block k hk)⟩
    have HTW := Lib.hid hTW
    have HWB := Lib.hid hWb
    have HK2 := Lib.hid hK2
    clear hTW hWb hK2 hfr hI hys
    have q6 := TLongest_calls W tb aL4 f4 HTW.out 100 (by omega) HKK.out.2.2.2.1 ⟨#[103, 105, 116, 107, 114, 97, 107, 101, 110]⟩ kKraken rfl (show 9 ≤ 4294967296 by omega)
    have Q6 := Lib.hid q6
    clear q6
    gi_wp2_with fail
    refine ⟨trivial, ?_⟩
    gi_at_call 23
    refine (callsIn_wide.2 Q6.out).mono ?_
    rintro e w7 ⟨o, hLg, rfl, hD7⟩
    have ho := hLg.one a_longest
    subst ho
    have hTW7 := HTW.out.dr hD7
    have hWb7 := tr_dr HWB.out hD7
    have hc7 : w7.cell? ⟨w6.heap.size, 0, none⟩ = some (.string ⟨#[103, 105, 116, 32, 103, 105, 116, 107, 32]⟩) := by rw [hD7.cell]; exact hc
    have hk7 : w7.heap[D]? = some (Obj.deferred (some [])) := by rw [hD7.heap]; exact HK2.out
    have HTW7 := Lib.hid hTW7
    have HWB7 := Lib.hid hWb7
    have HK7 := Lib.hid hk7
    clear hTW7 hWb7 hk7 HTW HWB HK2 hLg hD7 hc Q6
    rw [show str (lgB kKraken (some 4)) = .string ⟨#[103, 105, 116, 107]⟩ from rfl]
    have q7 := TNodes_calls w7 tb aL4 f4 HTW7.out (show 3 ≤ 1073741824 by omega)
    have Q7 := Lib.hid q7
    clear q7
    gi_wp2_with fail
    refine ⟨trivial, ?_⟩
    gi_at_call 15
    refine (callsIn_wide.2 Q7.out).mono ?_
    rintro e w8 ⟨n, rfl, hn, hn2, hF8⟩
    have hn5 := hn.one a_nodes
    subst hn5
    have hlt7 := HTW7.out.lt
    have hTW8 := HTW7.out.move fun b hb => hF8.block b (hlt7 b hb) id
    have hB8 : Below w.heap.size w w8 := HWB7.out.trans (hF8.below HWB7.out.size fun _ _ h => h.elim)
    have hc8 : w8.cell? ⟨w6.heap.size, 0, none⟩ = some (.string ⟨#[103, 105, 116, 32, 103, 105, 116, 107, 32]⟩) := by
      rw [World.cell?_of_block (w := w7) (hF8.block w6.heap.size (World.block_lt_of_cell? w7 _ hc7) id)]; exact hc7
    have hk8 : w8.heap[D]? = some (Obj.deferred (some [])) := hF8.heap HK7.out id
    have HTW8 := Lib.hid hTW8
    have HB8 := Lib.hid hB8
    have HK8 := Lib.hid hk8
    clear hTW8 hB8 hk8 HTW7 HWB7 HK7 hn hn2 hF8 hc7 Q7 hlt7
    rw [show n64 5 = .int .i64 5 from rfl]
    have q8 := TMany_calls w8 tb aL4 f4 HTW8.out 100 (by omega) HKK.out.2.2.2.1 ⟨#[103]⟩ kG rfl (show 1 ≤ 4294967296 by omega)
    rw [a_many] at q8
    have Q8 := Lib.hid q8
    clear q8
    gi_wp2_with fail
    refine ⟨trivial, ?_⟩
    gi_at_call 30
    refine (callsIn_wide.2 Q8.out).mono ?_
    rintro e w9 ⟨rfl, hD9⟩
    rw [show n64 3 = .int .i64 3 from rfl]
    have hT9 := HTW8.out.dr hD9
    have hB9 := tr_dr HB8.out hD9
    have hk9 : w9.heap[D]? = some (Obj.deferred (some [])) := by rw [hD9.heap]; exact HK8.out
    have HT9 := Lib.hid hT9
    have HB9 := Lib.hid hB9
    have HK9 := Lib.hid hk9
    clear hT9 hB9 hk9 HTW8 HB8 HK8 hD9 hc8 Q8
    have q9 := TLen_calls w9 tb aL4 f4 HT9.out
    rw [show n64 aL4.length = .int .i64 3 from rfl] at q9
    have Q9 := Lib.hid q9
    clear q9
    gi_wp2_with fail
    refine ⟨trivial, ?_⟩
    gi_at_call 18
    refine (callsIn_wide.2 Q9.out).mono ?_
    rintro e w' ⟨rfl, rfl⟩
    clear Q9
    have q10 := TDrop_calls w9 tb aL4 f4 HT9.out 100 (by omega) HKK.out.2.2.2.1 (show 3 ≤ 4294967296 by omega) ⟨#[103, 105, 116]⟩ kGit rfl (show 3 ≤ 4294967296 by omega)
    rw [a_drop.1, a_drop.2] at q10
    have Q10 := Lib.hid q10
    clear q10
    gi_wp2_with fail
    refine ⟨trivial, ?_⟩
    gi_at_call 25
    refine (callsIn_wide.2 Q10.out).mono ?_
    rintro e w10 ⟨rfl, f5, hT10, hs10, hF10⟩
    obtain ⟨B10, F5⟩ := tr_step HB9.out F4 hs10 hF10
    have hlt9 := HT9.out.lt
    have hk9 := lt_of_heap HK9.out
    have hk10 : w10.heap[D]? = some (Obj.deferred (some [])) := hF10.heap HK9.out fun hm => by have := hltw D hm; omega
    have hn5 : D ∉ f5 := fun hm => by
      rcases hs10 D hm with h | h
      · have := hltw D h; omega
      · omega
    have HT10 := Lib.hid hT10
    have HB10 := Lib.hid B10
    have HK10 := Lib.hid hk10
    clear hT10 B10 hk10 HT9 HB9 HK9 hF10 hs10 Q10 hlt9
    have q11 := TDrop_calls w10 tb aL5 f5 HT10.out 100 (by omega) HKK.out.2.2.2.2 (show 2 ≤ 4294967296 by omega) ⟨#[103, 105]⟩ kGi rfl (show 2 ≤ 4294967296 by omega)
    rw [a_drop2.1, a_drop2.2] at q11
    have Q11 := Lib.hid q11
    clear q11
    gi_wp2_with fail
    refine ⟨trivial, ?_⟩
    gi_at_call 25
    refine (callsIn_wide.2 Q11.out).mono ?_
    rintro e w11 ⟨rfl, f6, hT11, hs11, hF11⟩
    obtain ⟨B11, F6⟩ := tr_step HB10.out F5 hs11 hF11
    have hk11 : w11.heap[D]? = some (Obj.deferred (some [])) := hF11.heap HK10.out hn5
    have HT11 := Lib.hid hT11
    have HB11 := Lib.hid B11
    have HK11 := Lib.hid hk11
    clear hT11 B11 hk11 HT10 HB10 HK10 hF11 hs11 Q11
    have q12 := TNodes_calls w11 tb aL5 f6 HT11.out (show 2 ≤ 1073741824 by omega)
    have Q12 := Lib.hid q12
    clear q12
    gi_wp2_with fail
    refine ⟨trivial, ?_⟩
    gi_at_call 15
    refine (callsIn_wide.2 Q12.out).mono ?_
    rintro e w12 ⟨n, rfl, hn, hn2, hF12⟩
    have hn4 := hn.one a_nodes5
    subst hn4
    rw [show n64 4 = .int .i64 4 from rfl]
    have hB12 : Below w.heap.size w w12 := HB11.out.trans (hF12.below HB11.out.size fun _ _ h => h.elim)
    have hk12 : w12.heap[D]? = some (Obj.deferred (some [])) := hF12.heap HK11.out id
    have HB12 := Lib.hid hB12
    have HK12 := Lib.hid hk12
    clear hB12 hk12 HT11 HB11 HK11 hn hn2 hF12 Q12
    gi_wp2
    refine ⟨by simp, .inl ⟨_, _, rfl, run_takeDeferred HK12.out, ?_⟩⟩
    refine ⟨_, results_tmp rfl _ _ _, rfl, ?_⟩
    exact HB12.out.trans (belowK_b (w := w) (Nat.le_refl _) _ D _ _ (by have := HBW.out.size; omega) HK12.out rfl rfl)
  case stop =>
    rintro D c pr W _ _ h _
    exact h.elim
end Go.Proofs.Ytkpfendodmfeoaa
