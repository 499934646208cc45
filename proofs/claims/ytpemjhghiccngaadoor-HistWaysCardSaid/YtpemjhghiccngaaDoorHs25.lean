import Derived.Test.YtpemjhghiccngaaDoorHs24
namespace Go.Proofs.YtpemjhghiccngaaDoor
set_option linter.unusedVariables false
set_option linter.unusedSimpArgs false
open Go.RowKit Go.Shelf
attribute [local go_sem] Oper.semAt_some
/-- What fitting does with F as what fits. -/
def FitG (L : Nat) (F : Value) (p : Bs → Bool) (w : World) : Prop :=
  ∀ W, Below w.heap.size w W → ∀ (gf Bx : Nat), (∀ args w, (callFunc gf args).run Tryd.prog w = .ok (.enter gf args) w) → ∀ (S : List IB) (A : Option Addr), Bx < W.heap.size → (∀ a, A = some a → a.block < W.heap.size) →
    (∀ w0, Below W.heap.size W w0 → SeqStopsK Fence.wide 2 Tryd.prog gf #[.pointer (some ⟨Bx, 0, none⟩)] encC (KpB Bx A) (fun xs : List (CB L) => xs.map (·.1) = S) (fun pre => pre.map (·.1) <+: S) S.length w0) →
    Calls Tryd.prog 49 #[fnV gf Bx, F] W fun e w' => e = .returned (.tuple #[str (fitL p (S.map (·.2))).1, .bool (fitL p (S.map (·.2))).2]) ∧ Below W.heap.size W w'
theorem fitG_nil (L : Nat) (w : World) : FitG L .nilFunc (fun _ => true) w := fun W _ gf Bx eg S A hB hA hst => fittingN_calls L W gf Bx eg S A hB hA hst
theorem fitG_fn {L K cb : Nat} {Pre : World → Prop} {p : Bs → Bool} (hF : FitF L K cb Pre p) {w : World} (hP : Pre w) : FitG L (fnV K cb) p w := fun W hW gf Bx eg S A hB hA hst => fitting_calls L K cb Pre p hF W (hF.keep _ _ hW hP) gf Bx eg S A hB hA hst
theorem FitG.later {L : Nat} {F : Value} {p : Bs → Bool} {w w' : World} (h : FitG L F p w) (hb : Below w.heap.size w w') : FitG L F p w' := fun W hW => h W (hb.trans (hW.mono hb.size))
/-- The texts that Older goes through, the last one first. -/
def olderC (c : List Bs) (cmd : Bs) (is : Bool) : List Bs := if is = true ∧ 0 ≤ idxI c (fun x => decide (x = cmd)) then c.take (idxI c fun x => decide (x = cmd)).toNat else c
/-- The texts that Newer goes through. -/
def newerC (c : List Bs) (cmd : Bs) : List Bs := if idxI c (fun x => decide (x = cmd)) < 0 then [] else c.drop ((idxI c fun x => decide (x = cmd)).toNat + 1)
theorem idxI_le {α : Type} (l : List α) (p : α → Bool) : -1 ≤ idxI l p ∧ idxI l p < l.length := by
  unfold idxI
  by_cases h : l.any p = true
  · rw [if_pos h]
    obtain ⟨x, hx, hp⟩ := List.any_eq_true.1 h
    have := List.findIdx_lt_length_of_exists ⟨x, hx, hp⟩
    omega
  · rw [if_neg h]; omega
set_option maxHeartbeats 2000000 in
set_option maxRecDepth 100000 in
theorem HOlder_calls (L : Nat) (w : World) {hb : Nat} {l : List EntT} {c : List Bs} {fp : List Nat} (h : Hi w hb l c fp) (hcl : c.length ≤ 1000000) (hL : ∀ x ∈ c, x.length ≤ L) (cmd : Bs) (sc : ByteArray) (hs : sc = ⟨cmd.toArray⟩) (is : Bool) (F : Value) (p : Bs → Bool) (hF : FitG L F p w) :
    Calls Tryd.prog 27 #[hptr hb, .string sc, .bool is, F] w fun e w' => e = .returned (.tuple #[str (fitL p (olderC c cmd is).reverse).1, .bool (fitL p (olderC c cmd is).reverse).2]) ∧ Below w.heap.size w w' := by
  obtain ⟨vl, vc, ⟨h1, h2, h3⟩, rfl⟩ := h
  obtain ⟨A, cap, rfl, hnc, hcm, hrd, hA⟩ := h3.rd
  obtain ⟨k0, k1, _, _⟩ := hi_cells h1
  have hupto := fun (k : Nat) (hk : k ≤ c.length) (W : World) => run_upto (P := Tryd.prog) 29 9 1 Tryd.underlying29 Tryd.size_str A c.length cap k hk hnc W
  have HUP := Lib.hid hupto
  have HS := Lib.hid hs
  have HR := Lib.hid hrd
  have HF := Lib.hid hF
  have HL := Lib.hid hL
  have HA := Lib.hid (fun a (h : A = some a) => (hA a h).2)
  have hix := Lib.hid (idxT_calls w A cap c hrd hcl cmd sc hs)
  have hfin : ∀ (e : List Bs) (ce : Nat), e.length ≤ c.length → (∀ x ∈ e, x.length ≤ L) → Rd w A (e.map str) →
      Calls Tryd.prog 49 #[fnV 59 w.heap.size, F] (w.alloc (.cells #[.slice A e.length ce] 29)) fun x w' => x = .returned (.tuple #[str (fitL p e.reverse).1, .bool (fitL p e.reverse).2]) ∧ Below w.heap.size w w' := by
    intro e ce h1 h2 h3
    have hbl := (Below.refl w.heap.size w).alloc (Nat.le_refl _) (.cells #[.slice A e.length ce] 29)
    have := HF.out (w.alloc (.cells #[.slice A e.length ce] 29)) hbl 59 w.heap.size (enters_of Tryd.func59 (by kernel_rfl) rfl) (bwdK e e.length) A (by simp) (fun a ha => by have := HA.out a ha; simp; omega)
      (fun w0 hw0 => by
        have hbx := (Boxed.new w 29 (.slice A e.length ce))
        have := back_stopsC L 2 (by omega) e (by omega) h2 A ce w.heap.size w0 ((hw0.block _ (by simp)).trans hbx) ((h3.later hbl).later hw0)
        rwa [bwdK_len])
    have e2 : (bwdK e e.length).map (·.2) = e.reverse := by rw [bwdK_snd e e.length (Nat.le_refl _), List.take_length]
    rw [e2] at this
    exact this.mono fun x w' hx => ⟨hx.1, hbl.trans (hx.2.mono (by simp))⟩
  have HFIN := Lib.hid hfin
  obtain ⟨z, hz⟩ : ∃ z, z = idxI c fun x => decide (x = cmd) := ⟨_, rfl⟩
  have hzr := idxI_le c fun x => decide (x = cmd)
  have ho : ∀ is, olderC c cmd is = if is = true ∧ 0 ≤ z then c.take z.toNat else c := fun is => by rw [hz]; rfl
  have HO := Lib.hid ho
  rw [← hz] at hix hzr
  clear hz hupto hs hrd hF hL hA h1 h2 h3 hfin ho
  cases is with
  | false =>
    rw [HO.out, if_neg (by simp)]
    go_enter Tryd.func27, Tryd.ntmps27
    go_wp2_with fail
    refine hix.out.mono ?_
    rintro e w1 ⟨rfl, rfl⟩
    go_wp2_with (go_at_call 47; refine (Backward_calls _ _ _ _).mono ?_; rintro e w' ⟨rfl, rfl⟩)
    refine (HFIN.out c cap (Nat.le_refl _) HL.out HR.out).mono ?_
    rintro e w2 ⟨rfl, hb2⟩
    go_wp2
    go_ret2
    exact ⟨rfl, hb2⟩
  | true =>
    rw [HO.out]
    by_cases hz0 : 0 ≤ z
    · obtain ⟨k, rfl⟩ : ∃ k : Nat, z = (k : Int) := ⟨z.toNat, by omega⟩
      rw [if_pos ⟨rfl, hz0⟩]
      have hup := HUP.out k (by omega)
      have hle : (c.take k).length = k := by rw [List.length_take]; omega
      have hfk := HFIN.out (c.take k) cap (by omega) (fun x hx => HL.out x (List.mem_of_mem_take hx)) (by have := HR.out.take k; rwa [← List.map_take] at this)
      rw [hle] at hfk
      rw [Int.toNat_natCast]
      have HFK := Lib.hid hfk
      clear hfk hle
      go_enter Tryd.func27, Tryd.ntmps27
      go_wp2_with fail
      refine hix.out.mono ?_
      rintro e w1 ⟨rfl, rfl⟩
      go_wp2_with (go_at_call 47; refine (Backward_calls _ _ _ _).mono ?_; rintro e w' ⟨rfl, rfl⟩)
      refine HFK.out.mono ?_
      rintro e w2 ⟨rfl, hb2⟩
      go_wp2
      go_ret2
      exact ⟨rfl, hb2⟩
    · have : z = -1 := by omega
      subst this
      rw [if_neg (by simp)]
      go_enter Tryd.func27, Tryd.ntmps27
      go_wp2_with fail
      refine hix.out.mono ?_
      rintro e w1 ⟨rfl, rfl⟩
      go_wp2_with (go_at_call 47; refine (Backward_calls _ _ _ _).mono ?_; rintro e w' ⟨rfl, rfl⟩)
      refine (HFIN.out c cap (Nat.le_refl _) HL.out HR.out).mono ?_
      rintro e w2 ⟨rfl, hb2⟩
      go_wp2
      go_ret2
      exact ⟨rfl, hb2⟩
end Go.Proofs.YtpemjhghiccngaaDoor
namespace Go.Proofs.YtpemjhghiccngaaDoor
set_option linter.unusedVariables false
set_option linter.unusedSimpArgs false
open Go.RowKit Go.Shelf
attribute [local go_sem] Oper.semAt_some
theorem fromA_blk {A : Option Addr} {c k sz B : Nat} (hA : ∀ a, A = some a → a.block < B) : ∀ a, fromA A c k sz = some a → a.block < B := by
  intro a ha
  unfold fromA at ha
  split at ha
  · exact hA a ha
  · obtain ⟨x, rfl, rfl⟩ := Option.map_eq_some_iff.1 ha
    have e : (x.add (k * sz)).block = x.block := by simp only [Addr.add]; (try split) <;> rfl
    rw [e]; exact hA x rfl
set_option maxHeartbeats 2000000 in
set_option maxRecDepth 100000 in
theorem HNewer_calls (L : Nat) (w : World) {hb : Nat} {l : List EntT} {c : List Bs} {fp : List Nat} (h : Hi w hb l c fp) (hcl : c.length ≤ 1000000) (hL : ∀ x ∈ c, x.length ≤ L) (cmd : Bs) (sc : ByteArray) (hs : sc = ⟨cmd.toArray⟩) (F : Value) (p : Bs → Bool) (hF : FitG L F p w) :
    Calls Tryd.prog 28 #[hptr hb, .string sc, F] w fun e w' => e = .returned (.tuple #[str (fitL p (newerC c cmd)).1, .bool (fitL p (newerC c cmd)).2]) ∧ Below w.heap.size w w' := by
  obtain ⟨vl, vc, ⟨h1, h2, h3⟩, rfl⟩ := h
  obtain ⟨A, cap, rfl, hnc, hcm, hrd, hA⟩ := h3.rd
  obtain ⟨k0, k1, _, _⟩ := hi_cells h1
  have hfrom := fun (k : Nat) (hk : k ≤ c.length) (W : World) => run_from (P := Tryd.prog) 29 9 1 Tryd.underlying29 Tryd.size_str A c.length cap k hk hnc W
  have HFR := Lib.hid hfrom
  have HS := Lib.hid hs
  have HR := Lib.hid hrd
  have HF := Lib.hid hF
  have HL := Lib.hid hL
  have HA := Lib.hid (fun a (h : A = some a) => (hA a h).2)
  have HNC := Lib.hid hnc
  have hix := Lib.hid (idxT_calls w A cap c hrd hcl cmd sc hs)
  have hfin : ∀ (k : Nat), k ≤ c.length →
      Calls Tryd.prog 49 #[fnV 60 w.heap.size, F] (w.alloc (.cells #[.slice (fromA A cap k 1) (c.length - k) (cap - k)] 29)) fun x w' => x = .returned (.tuple #[str (fitL p (c.drop k)).1, .bool (fitL p (c.drop k)).2]) ∧ Below w.heap.size w w' := by
    intro k hk
    have hbl := (Below.refl w.heap.size w).alloc (Nat.le_refl _) (.cells #[.slice (fromA A cap k 1) (c.length - k) (cap - k)] 29)
    have hAf := fromA_blk (c := cap) (k := k) (sz := 1) HA.out
    have hle : (c.drop k).length = c.length - k := List.length_drop
    have hrf : Rd w (fromA A cap k 1) ((c.drop k).map str) := by
      have := HR.out.drop k cap (by simpa using HNC.out)
      rw [← List.map_drop] at this
      unfold fromA
      rwa [Nat.mul_one]
    have := HF.out (w.alloc (.cells #[.slice (fromA A cap k 1) (c.length - k) (cap - k)] 29)) hbl 60 w.heap.size (enters_of Tryd.func60 (by kernel_rfl) rfl) (fwdA 0 (c.drop k)) (fromA A cap k 1) (by simp) (fun a ha => by have := hAf a ha; simp; omega)
      (fun w0 hw0 => by
        have hbx := (Boxed.new w 29 (.slice (fromA A cap k 1) (c.length - k) (cap - k)))
        have hbx2 := (hw0.block _ (by simp)).trans hbx
        rw [← hle] at hbx2
        have := fwd_stopsC L 2 (by omega) (c.drop k) (by omega) (fun x hx => HL.out x (List.mem_of_mem_drop hx)) (fromA A cap k 1) (cap - k) w.heap.size w0 hbx2 ((hrf.later hbl).later hw0)
        rwa [fwdA_len])
    rw [fwdA_snd] at this
    exact this.mono fun x w' hx => ⟨hx.1, hbl.trans (hx.2.mono (by simp))⟩
  have HFIN := Lib.hid hfin
  obtain ⟨z, hz⟩ : ∃ z, z = idxI c fun x => decide (x = cmd) := ⟨_, rfl⟩
  have hzr := idxI_le c fun x => decide (x = cmd)
  have ho : newerC c cmd = if z < 0 then [] else c.drop (z.toNat + 1) := by rw [hz]; rfl
  rw [← hz] at hix hzr
  rw [ho]
  clear hz hfrom hs hrd hF hL hA h1 h2 h3 hfin ho hnc
  by_cases hz0 : 0 ≤ z
  · obtain ⟨k, rfl⟩ : ∃ k : Nat, z = (k : Int) := ⟨z.toNat, by omega⟩
    rw [if_neg (by omega), Int.toNat_natCast]
    have hfr := HFR.out (k + 1) (by omega)
    have hkk : ((k + 1 : Nat) : Int) = (k : Int) + 1 := by omega
    rw [hkk] at hfr
    have HFK := Lib.hid (HFIN.out (k + 1) (by omega))
    have hwk : IntKind.i64.wrap ((k : Int) + 1) = (k : Int) + 1 := IntWalk.i64_in _ (by omega)
    obtain ⟨A2, hA2⟩ : ∃ A2, A2 = fromA A cap (k + 1) 1 := ⟨_, rfl⟩
    obtain ⟨n2, hn2⟩ : ∃ n2, n2 = c.length - (k + 1) := ⟨_, rfl⟩
    obtain ⟨c2, hc2⟩ : ∃ c2, c2 = cap - (k + 1) := ⟨_, rfl⟩
    rw [← hA2, ← hn2, ← hc2] at hfr HFK
    clear hkk hA2 hn2 hc2
    go_enter Tryd.func28, Tryd.ntmps28
    go_wp2_with fail
    refine hix.out.mono ?_
    rintro e w1 ⟨rfl, rfl⟩
    go_wp2_with (go_at_call 50; refine (All_calls _ _ _ _).mono ?_; rintro e w' ⟨rfl, rfl⟩)
    refine HFK.out.mono ?_
    rintro e w2 ⟨rfl, hb2⟩
    go_wp2
    go_ret2
    exact ⟨rfl, hb2⟩
  · have : z = -1 := by omega
    subst this
    rw [if_pos (by simp), fitL_no (by simp)]
    go_enter Tryd.func28, Tryd.ntmps28
    go_wp2_with fail
    refine hix.out.mono ?_
    rintro e w1 ⟨rfl, rfl⟩
    go_wp2
    go_ret2
    exact ⟨rfl, Below.refl _ _⟩
end Go.Proofs.YtpemjhghiccngaaDoor
