import Derived.Test.YticaeflnpgbngaaDoorKw9
import Derived.Test.YticaeflnpgbngaaDoorKp
import Derived.Test.YticaeflnpgbngaaDoorSr5
import Derived.Laws.ResultCell
namespace Go.Proofs.YticaeflnpgbngaaDoor
set_option linter.unusedVariables false
set_option linter.unusedSimpArgs false
open Go.RowKit Go.Maps
/-! The document's small functions. -/
theorem ne_lit {x : UInt8} (n : Nat) (hn : n < 256) (h : x ≠ UInt8.ofNat n) : ((x.toNat : Int) == (n : Int)) = false := by
  rw [beq_eq_false_iff_ne]
  intro e
  refine h (UInt8.toNat_inj.1 ?_)
  rw [UInt8.toNat_ofNat', Nat.mod_eq_of_lt (by omega)]
  omega
theorem r4arrow_calls (x : UInt8) (w : World) : Calls Tryd.prog 60 #[byt x] w fun e w' => e = .returned (n64 (arrK x)) ∧ w = w' := by
  by_cases g1 : x = 65
  · subst g1
    go_enter Tryd.func60, Tryd.ntmps60
    go_wp2
    go_ret
    exact ⟨rfl, rfl⟩
  by_cases g2 : x = 66
  · subst g2
    go_enter Tryd.func60, Tryd.ntmps60
    go_wp2
    go_ret
    exact ⟨rfl, rfl⟩
  by_cases g3 : x = 67
  · subst g3
    go_enter Tryd.func60, Tryd.ntmps60
    go_wp2
    go_ret
    exact ⟨rfl, rfl⟩
  by_cases g4 : x = 68
  · subst g4
    go_enter Tryd.func60, Tryd.ntmps60
    go_wp2
    go_ret
    exact ⟨rfl, rfl⟩
  by_cases g5 : x = 72
  · subst g5
    go_enter Tryd.func60, Tryd.ntmps60
    go_wp2
    go_ret
    exact ⟨rfl, rfl⟩
  by_cases g6 : x = 70
  · subst g6
    go_enter Tryd.func60, Tryd.ntmps60
    go_wp2
    go_ret
    exact ⟨rfl, rfl⟩
  have HK := Lib.hid (show arrK x = 0 by unfold arrK; rw [if_neg g1, if_neg g2, if_neg g3, if_neg g4, if_neg g5, if_neg g6])
  have i1 := ne_lit 65 (by decide) g1
  have i2 := ne_lit 66 (by decide) g2
  have i3 := ne_lit 67 (by decide) g3
  have i4 := ne_lit 68 (by decide) g4
  have i5 := ne_lit 72 (by decide) g5
  have i6 := ne_lit 70 (by decide) g6
  clear g1 g2 g3 g4 g5 g6
  go_enter Tryd.func60, Tryd.ntmps60
  go_wp2
  go_ret
  exact ⟨by rw [HK.out]; rfl, rfl⟩
set_option maxRecDepth 100000 in
theorem r4low_calls (n : Nat) (hn : n < 32) (w : World) : Calls Tryd.prog 46 #[n64 n] w fun e w' => e = .returned (n64 (lowT.getD n 0)) ∧ Below w.heap.size w w' := by
  have i1 : (n : Int) < 32 := by omega
  go_enter Tryd.func46, Tryd.ntmps46
  go_wp2
  go_ret
  refine ⟨?_, (Below.refl _ _).alloc (Nat.le_refl _) _⟩
  clear i1
  have : n = 0 ∨ n = 1 ∨ n = 2 ∨ n = 3 ∨ n = 4 ∨ n = 5 ∨ n = 6 ∨ n = 7 ∨ n = 8 ∨ n = 9 ∨ n = 10 ∨ n = 11 ∨ n = 12 ∨ n = 13 ∨ n = 14 ∨ n = 15 ∨ n = 16 ∨ n = 17 ∨ n = 18 ∨ n = 19 ∨ n = 20 ∨ n = 21 ∨ n = 22 ∨ n = 23 ∨ n = 24 ∨ n = 25 ∨ n = 26 ∨ n = 27 ∨ n = 28 ∨ n = 29 ∨ n = 30 ∨ n = 31 := by omega
  rcases this with rfl | rfl | rfl | rfl | rfl | rfl | rfl | rfl | rfl | rfl | rfl | rfl | rfl | rfl | rfl | rfl | rfl | rfl | rfl | rfl | rfl | rfl | rfl | rfl | rfl | rfl | rfl | rfl | rfl | rfl | rfl | rfl <;> rfl
/-- The string that a slice's first bytes make. -/
theorem run_strT {P : Program} (w : World) (src e dst : TypeId) (hs : P.underlying src = some (.slice e)) (he : P.underlying e = some (.int .u8)) (hd : P.underlying dst = some .string) (A : Option Addr) (l : Bs) (n c : Nat) (s : ByteArray) (hn : n = l.length) (h : RdB w A l) (hsl : s = ⟨l.toArray⟩) :
    (convert src dst (.slice A n c)).run P w = .ok (.string s) w := by rw [hsl]; exact run_str w src e dst hs he hd A l n c hn h
theorem isP_len {b : Bs} (h : isP b = true) : 6 ≤ b.length := by
  have := of_decide_eq_true h
  have := congrArg List.length this
  rw [List.length_take, show begB.length = 6 from rfl] at this
  omega
def begC : List Value := [.int .u8 27, .int .u8 91, .int .u8 50, .int .u8 48, .int .u8 48, .int .u8 126]
set_option maxRecDepth 100000 in
set_option maxHeartbeats 1600000 in
theorem r4Paste_calls (A : Option Addr) (c : Nat) (b : Bs) (w : World) (h : RdB w A b) (hc : b.length ≤ c) : Calls Tryd.prog 20 #[.slice A b.length c] w fun e w' => e = .returned (.bool (isP b)) ∧ Below w.heap.size w w' := by
  have HR := Lib.hid h
  have hfo : Tryd.prog.follows Departure.mixedOrders = true := by kernel_rfl
  by_cases h6 : 6 ≤ b.length
  · have i6 : (6 : Int) ≤ (b.length : Int) := by omega
    obtain ⟨s1, hs1⟩ : ∃ s : ByteArray, s = ⟨(b.take 6).toArray⟩ := ⟨_, rfl⟩
    obtain ⟨s2, hs2⟩ : ∃ s : ByteArray, s = ⟨begB.toArray⟩ := ⟨_, rfl⟩
    have hsl := fun W => run_upto8 (P := Tryd.prog) 25 5 1 Tryd.underlying25 Tryd.size_u8 A b.length c 6 h6 hc W
    have hrt : ∀ W, RdB W A b → RdB W A (b.take 6) := fun W h1 => by
      have h2 := h1.take 6
      rwa [← List.map_take] at h2
    have hc1 : (convert 25 9 (.slice A 6 c)).run Tryd.prog w.drew = .ok (.string s1) w.drew := run_strT _ _ 5 _ Tryd.underlying25 Tryd.underlying5 Tryd.underlying9 A (b.take 6) 6 c s1 (by simp; omega) (hrt _ h) hs1
    have hc2 : (convert 25 9 (.slice A 6 c)).run Tryd.prog (w.alloc (.cells begC.toArray 5)).drew = .ok (.string s1) (w.alloc (.cells begC.toArray 5)).drew := run_strT _ _ 5 _ Tryd.underlying25 Tryd.underlying5 Tryd.underlying9 A (b.take 6) 6 c s1 (by simp; omega) (hrt (w.alloc (.cells begC.toArray 5)) (Rd.later h ((Below.refl _ _).alloc (Nat.le_refl _) _))) hs1
    have hc3 : (convert 25 9 (.slice (some ⟨w.heap.size, 0, none⟩) 6 6)).run Tryd.prog (w.alloc (.cells begC.toArray 5)).drew = .ok (.string s2) (w.alloc (.cells begC.toArray 5)).drew := run_strT _ _ 5 _ Tryd.underlying25 Tryd.underlying5 Tryd.underlying9 _ begB 6 6 s2 rfl (rdNewK0 w begC 5) hs2
    have hcmp : (s1.toList == s2.toList) = isP b := str_beq hs1 hs2
    unfold begC at hc2 hc3
    have HC := Lib.hid hcmp
    clear hs1 hs2 hrt hcmp h
    go_enter Tryd.func20, Tryd.ntmps20
    go_wp2_with fail
    go_region
    go_wp2
    go_ret
    exact ⟨by rw [← HC.out]; rfl, ((Below.refl _ _).alloc (Nat.le_refl _) _).drew⟩
  · have i6 : decide ((6 : Int) ≤ (b.length : Int)) = false := decide_eq_false (by omega)
    have i7 : ¬ (6 : Int) ≤ (b.length : Int) := by omega
    have HC := Lib.hid (isP_short (b := b) (by omega))
    clear h6
    go_enter Tryd.func20, Tryd.ntmps20
    go_wp2_with fail
    go_quiet (fail)
    go_wp2
    go_ret
    exact ⟨by rw [HC.out]; rfl, ⟨rfl, rfl, rfl, Nat.le_refl _, fun _ _ => rfl⟩⟩
end Go.Proofs.YticaeflnpgbngaaDoor
namespace Go.Proofs.YticaeflnpgbngaaDoor
set_option linter.unusedVariables false
set_option linter.unusedSimpArgs false
open Go.RowKit Go.Maps
/-! between, End, csi. -/
theorem btw_cases (s : Bs) : s = [49, 59, 51] ∨ s = [49, 59, 53] ∨ s = [49] ∨ s = [55] ∨ s = [52] ∨ s = [56] ∨ s = [51] ∨ (s ≠ [49, 59, 51] ∧ s ≠ [49, 59, 53] ∧ s ≠ [49] ∧ s ≠ [55] ∧ s ≠ [52] ∧ s ≠ [56] ∧ s ≠ [51]) := by
  by_cases h1 : s = [49, 59, 51]
  · simp [h1]
  by_cases h2 : s = [49, 59, 53]
  · simp [h2]
  by_cases h3 : s = [49]
  · simp [h3]
  by_cases h4 : s = [55]
  · simp [h4]
  by_cases h5 : s = [52]
  · simp [h5]
  by_cases h6 : s = [56]
  · simp [h6]
  by_cases h7 : s = [51]
  · simp [h7]
  simp [h1, h2, h3, h4, h5, h6, h7]
theorem toNatI {x : UInt8} {n : Nat} (h : x.toNat = n) : (x.toNat : Int) = (n : Int) := by rw [h]
set_option maxRecDepth 100000 in
set_option maxHeartbeats 3200000 in
theorem r4between_calls (s : Bs) (x : UInt8) (w : World) : Calls Tryd.prog 72 #[str s, byt x] w fun e w' => e = .returned (n64 (btwK s x)) ∧ w = w' := by
  have hx : x = 67 ∨ x = 68 ∨ x = 126 ∨ (x ≠ 67 ∧ x ≠ 68 ∧ x ≠ 126) := by
    by_cases h1 : x = 67
    · simp [h1]
    by_cases h2 : x = 68
    · simp [h2]
    by_cases h3 : x = 126
    · simp [h3]
    simp [h1, h2, h3]
  rcases btw_cases s with h | h | h | h | h | h | h | ⟨s1, s2, s3, s4, s5, s6, s7⟩
  case inr.inr.inr.inr.inr.inr.inr =>
    obtain ⟨sx, hsx⟩ : ∃ sx : ByteArray, sx = ⟨s.toArray⟩ := ⟨_, rfl⟩
    have htl : sx.toList = s := by rw [hsx, ByteArray.toList_eq]
    have e0 : str s = .string sx := by rw [hsx]
    rw [e0]
    have k1 : ¬ sx.toList = [49, 59, 51] := by rw [htl]; exact s1
    have k2 : ¬ sx.toList = [49, 59, 53] := by rw [htl]; exact s2
    have k3 : ¬ sx.toList = [49] := by rw [htl]; exact s3
    have k4 : ¬ sx.toList = [55] := by rw [htl]; exact s4
    have k5 : ¬ sx.toList = [52] := by rw [htl]; exact s5
    have k6 : ¬ sx.toList = [56] := by rw [htl]; exact s6
    have k7 : ¬ sx.toList = [51] := by rw [htl]; exact s7
    have j1 : (sx.toList == [49, 59, 51]) = false := by rw [beq_eq_false_iff_ne]; exact k1
    have j2 : (sx.toList == [49, 59, 53]) = false := by rw [beq_eq_false_iff_ne]; exact k2
    have j3 : (sx.toList == [49]) = false := by rw [beq_eq_false_iff_ne]; exact k3
    have j4 : (sx.toList == [55]) = false := by rw [beq_eq_false_iff_ne]; exact k4
    have j5 : (sx.toList == [52]) = false := by rw [beq_eq_false_iff_ne]; exact k5
    have j6 : (sx.toList == [56]) = false := by rw [beq_eq_false_iff_ne]; exact k6
    have j7 : (sx.toList == [51]) = false := by rw [beq_eq_false_iff_ne]; exact k7
    have HB := Lib.hid (show btwK s x = 0 by
      unfold btwK tilK s13
      rw [if_neg (by rintro ⟨e | e, _⟩ <;> contradiction), if_neg (by rintro ⟨e | e, _⟩ <;> contradiction), if_neg (show ¬ (s = [49] ∨ s = [55]) by rintro (e | e) <;> contradiction), if_neg (show ¬ (s = [52] ∨ s = [56]) by rintro (e | e) <;> contradiction), if_neg s7]
      split <;> rfl)
    clear s1 s2 s3 s4 s5 s6 s7 htl hsx e0
    by_cases h3 : x = 126
    · subst h3
      clear hx
      go_enter Tryd.func72, Tryd.ntmps72
      go_wp2
      go_ret
      exact ⟨by rw [HB.out]; rfl, rfl⟩
    · have i3 := ne_lit 126 (by decide) h3
      clear hx h3
      go_enter Tryd.func72, Tryd.ntmps72
      go_wp2
      go_ret
      exact ⟨by rw [HB.out]; rfl, rfl⟩
  all_goals
    subst h
    rcases hx with h1 | h2 | h3 | ⟨h1, h2, h3⟩
    · subst h1
      go_enter Tryd.func72, Tryd.ntmps72
      go_wp2
      go_ret
      exact ⟨rfl, rfl⟩
    · subst h2
      go_enter Tryd.func72, Tryd.ntmps72
      go_wp2
      go_ret
      exact ⟨rfl, rfl⟩
    · subst h3
      go_enter Tryd.func72, Tryd.ntmps72
      go_wp2
      go_ret
      exact ⟨rfl, rfl⟩
    · have i1 := ne_lit 67 (by decide) h1
      have i2 := ne_lit 68 (by decide) h2
      have i3 := ne_lit 126 (by decide) h3
      have HB := Lib.hid (show ∀ s, btwK s x = 0 by intro s; unfold btwK; rw [if_neg (fun e => h1 e.2), if_neg (fun e => h2 e.2), if_pos h3])
      clear h1 h2 h3
      go_enter Tryd.func72, Tryd.ntmps72
      go_wp2
      go_ret
      exact ⟨by rw [HB.out]; rfl, rfl⟩
end Go.Proofs.YticaeflnpgbngaaDoor
namespace Go.Proofs.YticaeflnpgbngaaDoor
set_option linter.unusedVariables false
set_option linter.unusedSimpArgs false
open Go.RowKit Go.Maps
/-! End. -/
def fromA8 (A : Option Addr) (c k : Nat) : Option Addr := if c = k then A else A.map (fun x => x.add k)
theorem run_sub8 {P : Program} (t e : TypeId) (ht : P.underlying t = some (.slice e)) (hsz : ∀ w, (sizeOf e).run P w = .ok 1 w) (A : Option Addr) (n c i j : Nat) (hi : i ≤ j) (hj : j ≤ n) (hn : n ≤ c) (w : World) :
    (Instr.slice t (.slice A n c) (some (.int .i64 (i : Int))) (some (.int .i64 (j : Int))) none).run P w = .ok (.slice (fromA8 A c i) (j - i) (c - i)) w := by
  have h1 : (0 : Int) ≤ (j : Int) ∧ (j : Int) ≤ (c : Int) := by omega
  have h2 : (0 : Int) ≤ (i : Int) ∧ (i : Int) ≤ (j : Int) := by omega
  simp [Instr.slice, run_underlying ht, Instr.sliceBounds, Instr.sliceBound, hsz, fromA8, h1, h2, asIntOf]
  rw [if_pos (show j ≤ c by omega)]
  simp [h2]
  intro h; omega
theorem rd_sub8 {w : World} {A : Option Addr} {b : Bs} (h : RdB w A b) (i j c : Nat) (hc : b.length ≤ c) : RdB w (fromA8 A c i) ((b.drop i).take (j - i)) := by
  have h1 := (Rd.drop h i c (by simpa using hc)).take (j - i)
  rw [← List.map_drop, ← List.map_take] at h1
  exact h1
theorem endOf_step {b : Bs} {k : Nat} (h : k < b.length) : endOf b k = if endAt b k then some k else endOf b (k + 1) := by
  unfold endOf
  obtain ⟨n, hn⟩ : ∃ n, b.length - k = n + 1 := ⟨b.length - k - 1, by omega⟩
  rw [hn, endFrom, show b.length - (k + 1) = n by omega]
theorem endOf_none {b : Bs} {k : Nat} (h : b.length < k + 6) : endOf b k = none := by
  unfold endOf
  exact endFrom_none fun j h1 h2 h3 => by have := h3.1; omega
def endI (o : Option Nat) : Int := match o with | none => -1 | some a => (a : Int)
def endC : List Value := [.int .u8 27, .int .u8 91, .int .u8 50, .int .u8 48, .int .u8 49, .int .u8 126]
set_option maxRecDepth 100000 in
set_option maxHeartbeats 1600000 in
theorem r4End_calls (A : Option Addr) (c : Nat) (b : Bs) (f : Nat) (w : World) (h : RdB w A b) (hc : b.length ≤ c) (hl : b.length ≤ 1000000) (hf : f ≤ 1000000) : Calls Tryd.prog 71 #[.slice A b.length c, n64 f] w fun e w' => e = .returned (.int .i64 (endI (endOf b f))) ∧ Below w.heap.size w w' := by
  have HR := Lib.hid h
  have hfo : Tryd.prog.follows Departure.mixedOrders = true := by kernel_rfl
  clear h
  go_enter Tryd.func71, Tryd.ntmps71
  go_wp2
  go_loopw [5] (fun u5 wr => ∃ (k : Nat), u5 = n64 k ∧ k ≤ 1000001 ∧ Hid (endOf b k = endOf b f) ∧ Hid (Below w.heap.size w wr)) (fun u5 _ => (1000007 - intOf u5).toNat)
  case atStart => exact ⟨f, rfl, by omega, Lib.hid rfl, Lib.hid (Below.refl _ _)⟩
  case round =>
    obtain ⟨k, rfl, hk, HE, HB⟩ := hrel
    by_cases h6 : k + 6 ≤ b.length
    · have i6 : (k : Int) + 6 ≤ (b.length : Int) := by omega
      have hrd := Rd.later HR.out HB.out
      obtain ⟨s1, hs1⟩ : ∃ s : ByteArray, s = ⟨((b.drop k).take 6).toArray⟩ := ⟨_, rfl⟩
      obtain ⟨s2, hs2⟩ : ∃ s : ByteArray, s = ⟨endB.toArray⟩ := ⟨_, rfl⟩
      have hsl : ∀ W : World, (Instr.slice 25 (.slice A b.length c) (some (.int .i64 (k : Int))) (some (.int .i64 ((k : Int) + 6))) none).run Tryd.prog W = .ok (.slice (fromA8 A c k) 6 (c - k)) W := fun W => by
        have := run_sub8 (P := Tryd.prog) 25 5 Tryd.underlying25 Tryd.size_u8 A b.length c k (k + 6) (by omega) h6 hc W
        rwa [show k + 6 - k = 6 by omega] at this
      have hrt : ∀ W, RdB W A b → RdB W (fromA8 A c k) ((b.drop k).take 6) := fun W h1 => by
        have h2 := rd_sub8 h1 k (k + 6) c hc
        rwa [show k + 6 - k = 6 by omega] at h2
      have hl6 : 6 = ((b.drop k).take 6).length := by simp; omega
      have hc1 : (convert 25 9 (.slice (fromA8 A c k) 6 (c - k))).run Tryd.prog wr.drew = .ok (.string s1) wr.drew := run_strT _ _ 5 _ Tryd.underlying25 Tryd.underlying5 Tryd.underlying9 _ _ 6 _ s1 hl6 (hrt _ hrd) hs1
      have hc2 : (convert 25 9 (.slice (fromA8 A c k) 6 (c - k))).run Tryd.prog (wr.alloc (.cells endC.toArray 5)).drew = .ok (.string s1) (wr.alloc (.cells endC.toArray 5)).drew := run_strT _ _ 5 _ Tryd.underlying25 Tryd.underlying5 Tryd.underlying9 _ _ 6 _ s1 hl6 (hrt (wr.alloc (.cells endC.toArray 5)) (Rd.later hrd ((Below.refl _ _).alloc (Nat.le_refl _) _))) hs1
      have hc3 : (convert 25 9 (.slice (some ⟨wr.heap.size, 0, none⟩) 6 6)).run Tryd.prog (wr.alloc (.cells endC.toArray 5)).drew = .ok (.string s2) (wr.alloc (.cells endC.toArray 5)).drew := run_strT _ _ 5 _ Tryd.underlying25 Tryd.underlying5 Tryd.underlying9 _ endB 6 6 s2 rfl (rdNewK0 wr endC 5) hs2
      have hcmp : (s1.toList == s2.toList) = decide (endAt b k) := by
        rw [str_beq hs1 hs2]
        exact decide_eq_decide.2 ⟨fun e => ⟨h6, e⟩, fun e => e.2⟩
      have hst := endOf_step (b := b) (k := k) (by omega)
      have HB2 := Lib.hid ((HB.out.alloc HB.out.size (.cells endC.toArray 5)).drew)
      unfold endC at hc2 hc3 HB2
      clear hs1 hs2 hrt hrd hl6
      by_cases he : endAt b k
      · rw [decide_eq_true he] at hcmp
        rw [if_pos he] at hst
        have HV := Lib.hid (HE.out.symm.trans hst)
        clear he hst
        go_wp2_with fail
        go_region
        go_wp2
        go_ret
        exact ⟨by rw [HV.out]; rfl, HB2.out⟩
      · rw [decide_eq_false he] at hcmp
        rw [if_neg he] at hst
        have HV : Hid (endOf b (k + 1) = endOf b f) := Lib.hid (hst.symm.trans HE.out)
        clear he hst
        go_wp2_with fail
        go_region
        go_wp2
        go_roundw
        case rel => exact ⟨k + 1, by go_num, by omega, HV, HB2⟩
        case measure => simp [intOf]; omega
    · have i6 : ¬ (k : Int) + 6 ≤ (b.length : Int) := by omega
      have HV := Lib.hid (HE.out.symm.trans (endOf_none (b := b) (k := k) (by omega)))
      clear h6
      go_wp2
      go_ret
      exact ⟨by rw [HV.out]; rfl, HB.out⟩
end Go.Proofs.YticaeflnpgbngaaDoor
namespace Go.Proofs.YticaeflnpgbngaaDoor
set_option linter.unusedVariables false
set_option linter.unusedSimpArgs false
open Go.RowKit Go.Maps
/-! The document's keys. -/
def keyV (q : KeyT) : Value := .agg #[n64 q.k, str q.t]
theorem load_key {w : World} {b : Nat} {x y : Value} (h : w.heap[b]? = some (.cells #[x, y] 54 (0, 0))) : (loadVar 54 ⟨b, 0, none⟩).run Tryd.prog w = .ok (.agg #[x, y]) w :=
  run_loadVar_row w b _ _ _ (0, 0) _ h Tryd.underlying54 rfl (by kernel_rfl)
theorem results_key1 {fn : Func} {p : Tmp} (h : fn.results = #[.cell p 54]) {tmps : Array Value} {w : World} {b : Nat} {x y : Value} (ha : tmps.getD p undef = .pointer (some ⟨b, 0, none⟩)) (hg : w.heap[b]? = some (.cells #[x, y] 54 (0, 0))) :
    (results fn tmps).run Tryd.prog w = .ok (.agg #[x, y]) w := results_cell1 h ha (load_key hg)
theorem results_key2 {fn : Func} {p u : Tmp} (h : fn.results = #[.cell p 54, .tmp u]) {tmps : Array Value} {w : World} {b : Nat} {x y v : Value} (ha : tmps.getD p undef = .pointer (some ⟨b, 0, none⟩)) (hg : w.heap[b]? = some (.cells #[x, y] 54 (0, 0))) (hu : tmps.getD u undef = v) :
    (results fn tmps).run Tryd.prog w = .ok (.tuple #[.agg #[x, y], v]) w := by
  rw [results_cell_tmp h, ha, hu]
  simp [asAddr, load_key hg]
theorem keyV_mk1 (t : Bs) (s : ByteArray) (h : s = ⟨t.toArray⟩) : keyV ⟨1, t⟩ = .agg #[.int .i64 1, .string s] := by rw [h]; rfl
def keyZ : Array Value := #[.int .i64 0, .string ⟨#[]⟩]
theorem key_cells {W : World} {b : Nat} {T : TypeId} {x y : Value} (h : W.heap[b]? = some (.cells #[x, y] T (0, 0))) : W.cell? ⟨b, 0, none⟩ = some x ∧ W.cell? ⟨b, 1, none⟩ = some y ∧ W.frozen? ⟨b, 0, none⟩ = false ∧ W.frozen? ⟨b, 1, none⟩ = false :=
  ⟨by rw [cell_of_row W b _ _ _ (0, 0) h]; rfl, by rw [cell_of_row W b _ _ _ (0, 0) h]; rfl, frozen_of_row W b 0 _ _ h, frozen_of_row W b 1 _ _ h⟩
theorem key_set {W : World} {b : Nat} {T : TypeId} {x y : Value} (h : W.heap[b]? = some (.cells #[x, y] T (0, 0))) (u v : Value) : ((W.setCell ⟨b, 0, none⟩ u).setCell ⟨b, 1, none⟩ v).heap[b]? = some (.cells #[u, v] T (0, 0)) :=
  heap_setCell_same _ b 1 _ _ v (heap_setCell_same W b 0 _ _ u h)
theorem below_set2 {w W : World} {b : Nat} {u v : Value} (h : Below w.heap.size w W) (hb : w.heap.size ≤ b) : Below w.heap.size w ((W.setCell ⟨b, 0, none⟩ u).setCell ⟨b, 1, none⟩ v) :=
  ((Fr.of_below h).trans ((Fr.setCell W ⟨b, 0, none⟩ u).trans (Fr.setCell _ ⟨b, 1, none⟩ v) fun _ _ e => e) fun i _ e => by rw [e]; exact hb).below (Nat.le_refl _) fun k hk e => e
set_option maxRecDepth 100000 in
theorem r4sign_calls (r : Nat) (hr : Utf8.valid (r : Int) = true) (w : World) : Calls Tryd.prog 26 #[n64 r] w fun e w' => e = .returned (keyV (sgn r)) ∧ Below w.heap.size w w' := by
  have HB0 := Lib.hid ((Below.refl w.heap.size w).alloc (Nat.le_refl _) (.cells keyZ 54))
  have HC0 := Lib.hid (heap_alloc_last w (.cells keyZ 54))
  have HRB := Lib.hid (rb_enc hr)
  clear hr
  unfold keyZ at HB0 HC0
  go_enter Tryd.func26, Tryd.ntmps26
  go_wp2_with fail
  refine (rControl_calls (r : Int) _).mono ?_
  rintro e w1 ⟨rfl, b1⟩
  have HC1 := Lib.hid ((b1.block w.heap.size (by simp)).trans HC0.out)
  have HB1 := Lib.hid (HB0.out.trans (b1.mono (by simp)))
  have hs1 := b1.size
  rw [World.size_alloc] at hs1
  clear b1
  cases hc : ctl (r : Int) with
  | true =>
    obtain ⟨c0, c1, f0, f1⟩ := key_cells HC1.out
    have HS := Lib.hid (show keyV (sgn r) = .agg #[.int .i64 0, .string ⟨#[]⟩] by unfold sgn; rw [if_pos hc]; rfl)
    clear hc
    go_wp2
    refine bodyPost_ret (v := .agg #[.int .i64 0, .string ⟨#[]⟩]) (results_key1 rfl rfl (key_set HC1.out _ _)) rfl ⟨by rw [HS.out], below_set2 HB1.out (Nat.le_refl _)⟩
  | false =>
    obtain ⟨sE, hsE⟩ : ∃ s : ByteArray, s = ⟨(enc r).toArray⟩ := ⟨_, rfl⟩
    have HS := Lib.hid (show keyV (sgn r) = .agg #[.int .i64 1, .string sE] by unfold sgn; rw [if_neg (by rw [hc]; simp)]; exact keyV_mk1 _ _ hsE)
    have q := Bytes_calls (r : Int) w1
    rw [HRB.out] at q
    have Q := Lib.hid q
    clear hc q
    go_wp2_with (refine Q.out.mono ?_; rintro e w2 ⟨v, rfl, hrow, b2⟩; obtain ⟨A, c, rfl, _, _, hrd, _⟩ := hrow.rd; have hstr := run_strT (P := Tryd.prog) w2 25 5 9 Tryd.underlying25 Tryd.underlying5 Tryd.underlying9 A (enc r) _ c sE rfl hrd hsE; have HC2 := Lib.hid ((b2.block w.heap.size (by omega)).trans HC1.out); obtain ⟨c0, c1, f0, f1⟩ := key_cells HC2.out; have HB2 := Lib.hid (HB1.out.trans (b2.mono (by omega))); clear hsE)
    refine bodyPost_ret (v := .agg #[.int .i64 1, .string sE]) (results_key1 rfl rfl (key_set HC2.out _ _)) rfl ⟨by rw [HS.out], below_set2 HB2.out (Nat.le_refl _)⟩
end Go.Proofs.YticaeflnpgbngaaDoor
namespace Go.Proofs.YticaeflnpgbngaaDoor
set_option linter.unusedVariables false
set_option linter.unusedSimpArgs false
open Go.RowKit Go.Maps
/-! csi. -/
theorem endFrom_bound {b : Bs} : {n k a : Nat} → endFrom b n k = some a → k ≤ a ∧ endAt b a
  | 0, k, a, h => by cases h
  | n + 1, k, a, h => by
      rw [endFrom] at h
      split at h
      · rename_i h1
        cases h
        exact ⟨Nat.le_refl _, h1⟩
      · have := endFrom_bound h
        exact ⟨by omega, this.2⟩
theorem endOf_bound {b : Bs} {k a : Nat} (h : endOf b k = some a) : k ≤ a ∧ a + 6 ≤ b.length := ⟨(endFrom_bound h).1, (endFrom_bound h).2.1⟩
theorem midN_le : (q : Bs) → midN q ≤ q.length
  | [] => Nat.le_refl _
  | x :: q => by
      rw [midN]
      split
      · have := midN_le q; rw [List.length_cons]; omega
      · omega
theorem midN_at : (q : Bs) → {j : Nat} → j < midN q → ∃ x, q[j]? = some x ∧ mid x
  | [], j, h => by simp [midN] at h
  | x :: q, j, h => by
      rw [midN] at h
      split at h
      · rename_i hx
        cases j with
        | zero => exact ⟨x, rfl, hx⟩
        | succ j => exact midN_at q (j := j) (by omega)
      · omega
theorem midN_stop : (q : Bs) → {x : UInt8} → q[midN q]? = some x → ¬ mid x
  | [], x, h => by simp at h
  | y :: q, x, h => by
      rw [midN] at h
      split at h
      · exact midN_stop q (by simpa using h)
      · rename_i hx
        simp at h
        rw [← h]; exact hx
theorem csi_paste {b : Bs} (h : isP b = true) : csiR b = match endOf b 6 with
    | none => (kb 0, 0)
    | some a => (⟨26, pl (((b.drop 6).take (a - 6)).take 1200)⟩, a + 6) := by
  unfold csiR
  rw [if_pos h]
  all_goals (cases endOf b 6 <;> rfl)
theorem csi_none {b : Bs} (h : isP b = false) (h2 : (b.drop 2).length = midN (b.drop 2)) : csiR b = (kb 0, 0) := by
  unfold csiR
  rw [if_neg (by rw [h]; simp), show b.drop (2 + midN (b.drop 2)) = [] by rw [← List.drop_drop, ← h2, List.drop_length]]
theorem csi_some {b : Bs} (h : isP b = false) {x : UInt8} (h2 : b[2 + midN (b.drop 2)]? = some x) : csiR b = if fin x then (if midN (b.drop 2) = 0 then (kb (arrK x), 3) else (kb (btwK ((b.drop 2).take (midN (b.drop 2))) x), 2 + midN (b.drop 2) + 1)) else (kb 0, 2 + midN (b.drop 2)) := by
  unfold csiR
  obtain ⟨hlt, hx⟩ := List.getElem?_eq_some_iff.1 h2
  rw [if_neg (by rw [h]; simp), List.drop_eq_getElem_cons hlt, hx]
theorem one2B {W : World} {A : Option Addr} {b : Bs} {k : Nat} {x : UInt8} (h : RdB W A b) (hx : b[k]? = some x) : ∃ g off, A = some ⟨g, off, none⟩ ∧ W.cell? ⟨g, off + k, none⟩ = some (byt x) := h k (byt x) (by rw [List.getElem?_map, hx]; rfl)
set_option maxRecDepth 100000 in
set_option maxHeartbeats 3200000 in
theorem r4csiP_calls (A : Option Addr) (c : Nat) (b : Bs) (w : World) (h : RdB w A b) (hc : b.length ≤ c) (hl : b.length ≤ 100000) (hP : isP b = true) : Calls Tryd.prog 59 #[.slice A b.length c] w fun e w' => e = .returned (.tuple #[keyV (csiR b).1, n64 (csiR b).2]) ∧ Below w.heap.size w w' := by
  have HB0 := Lib.hid ((Below.refl w.heap.size w).alloc (Nat.le_refl _) (.cells keyZ 54))
  have HC0 := Lib.hid (heap_alloc_last w (.cells keyZ 54))
  have HR0 : Hid (RdB (w.alloc (.cells keyZ 54)) A b) := Lib.hid (Rd.later h ((Below.refl _ _).alloc (Nat.le_refl _) _))
  have h6 := isP_len hP
  have qp := r4Paste_calls A c b (w.alloc (.cells keyZ 54)) HR0.out hc
  rw [hP] at qp
  have QP := Lib.hid qp
  have HCS := Lib.hid (csi_paste hP)
  unfold keyZ at HB0 HC0 QP HR0
  clear qp h hP
  go_enter Tryd.func59, Tryd.ntmps59
  go_wp2_with fail
  refine QP.out.mono ?_
  rintro e w1 ⟨rfl, b1⟩
  have HC1 := Lib.hid ((b1.block w.heap.size (by simp)).trans HC0.out)
  have HB1 := Lib.hid (HB0.out.trans (b1.mono (by simp)))
  have HR1 := Lib.hid (Rd.later HR0.out b1)
  have hs1 := b1.size
  rw [World.size_alloc] at hs1
  clear b1
  go_wp2_with fail
  refine (r4End_calls A c b 6 w1 HR1.out hc (by omega) (by omega)).mono ?_
  rintro e w2 ⟨rfl, b2⟩
  have HC2 := Lib.hid ((b2.block w.heap.size (by omega)).trans HC1.out)
  have HB2 := Lib.hid (HB1.out.trans (b2.mono (by omega)))
  have HR2 := Lib.hid (Rd.later HR1.out b2)
  have hs2 := b2.size
  clear b2
  obtain ⟨c0, c1, f0, f1⟩ := key_cells HC2.out
  cases ho : endOf b 6 with
  | none =>
    have HO := Lib.hid (show csiR b = (kb 0, 0) by rw [HCS.out, ho])
    have he : endI none = -1 := rfl
    rw [he]
    clear ho he
    go_wp2
    refine bodyPost_ret (v := .tuple #[.agg #[.int .i64 0, .string ⟨#[]⟩], .int .i64 0]) (results_key2 rfl rfl (key_set HC2.out _ _) rfl) rfl ⟨by rw [HO.out]; rfl, below_set2 HB2.out (Nat.le_refl _)⟩
  | some a =>
    obtain ⟨a1, a2⟩ := endOf_bound ho
    obtain ⟨L, hL⟩ : ∃ L, L = ((b.drop 6).take (a - 6)).take 1200 := ⟨_, rfl⟩
    have HO := Lib.hid (show csiR b = (⟨26, pl L⟩, a + 6) by rw [HCS.out, ho, hL])
    have he : endI (some a) = (a : Int) := rfl
    rw [he]
    have i0 : ¬ (a : Int) < 0 := by omega
    have hsl : ∀ W : World, (Instr.slice 25 (.slice A b.length c) (some (.int .i64 6)) (some (.int .i64 (a : Int))) none).run Tryd.prog W = .ok (.slice (fromA8 A c 6) (a - 6) (c - 6)) W := fun W => run_sub8 (P := Tryd.prog) 25 5 Tryd.underlying25 Tryd.size_u8 A b.length c 6 a a1 (by omega) hc W
    have hrd := rd_sub8 HR2.out 6 a c hc
    have hdl : ((b.drop 6).take (a - 6)).length = a - 6 := by simp; omega
    obtain ⟨n, hn⟩ : ∃ n, n = a - 6 := ⟨_, rfl⟩
    rw [← hn] at hsl hrd hdl
    rw [← hn] at hL
    have hcn : n ≤ c - 6 := by omega
    obtain ⟨sL, hsL⟩ : ∃ s : ByteArray, s = ⟨L.toArray⟩ := ⟨_, rfl⟩
    have hLl : L.length ≤ 1200 := by rw [hL]; simp; omega
    have PL := fun W => Lib.hid (rPlain_calls L (by omega) sL hsL W)
    have A3 := Lib.hid (show (a : Int) + 6 = ((a + 6 : Nat) : Int) by omega)
    have ab : a ≤ 100000 := by omega
    by_cases h12 : 1200 < n
    · have i12 : (1200 : Int) < (n : Int) := by omega
      have hup : ∀ W : World, (Instr.slice 25 (.slice (fromA8 A c 6) n (c - 6)) none (some (.int .i64 1200)) none).run Tryd.prog W = .ok (.slice (fromA8 A c 6) 1200 (c - 6)) W := fun W => run_upto8 (P := Tryd.prog) 25 5 1 Tryd.underlying25 Tryd.size_u8 (fromA8 A c 6) n (c - 6) 1200 (by omega) (by omega) W
      have hrL : RdB w2 (fromA8 A c 6) L := by
        have := Rd.take hrd 1200
        rw [← List.map_take, ← hL] at this
        exact this
      have hstr := run_strT (P := Tryd.prog) w2 25 5 9 Tryd.underlying25 Tryd.underlying5 Tryd.underlying9 (fromA8 A c 6) L 1200 (c - 6) sL (by rw [hL, List.length_take, hdl]; omega) hrL hsL
      clear hrd hrL hdl hL hsL ho he hn hLl a1
      go_wp2_with (refine (PL w2).out.mono ?_; rintro e w3 ⟨rfl, b3⟩; have HC3 := Lib.hid ((b3.block w.heap.size (by omega)).trans HC2.out); have HB3 := Lib.hid (HB2.out.trans (b3.mono (by omega))); clear c0 c1 f0 f1; obtain ⟨c0, c1, f0, f1⟩ := key_cells HC3.out)
      refine bodyPost_ret (v := .tuple #[.agg #[.int .i64 26, .string ⟨(pl L).toArray⟩], .int .i64 ((a : Int) + 6)]) (results_key2 rfl rfl (key_set HC3.out _ _) rfl) rfl ⟨?_, below_set2 HB3.out (Nat.le_refl _)⟩
      rw [HO.out, A3.out]; rfl
    · have i12 : ¬ (1200 : Int) < (n : Int) := by omega
      have hLe : L = (b.drop 6).take n := by rw [hL, List.take_of_length_le (by omega)]
      have hstr := run_strT (P := Tryd.prog) w2 25 5 9 Tryd.underlying25 Tryd.underlying5 Tryd.underlying9 (fromA8 A c 6) L n (c - 6) sL (by rw [hLe, hdl]) (by rw [hLe]; exact hrd) hsL
      clear hrd hdl hL hsL ho he hn hLl a1 hLe
      go_wp2_with (refine (PL w2).out.mono ?_; rintro e w3 ⟨rfl, b3⟩; have HC3 := Lib.hid ((b3.block w.heap.size (by omega)).trans HC2.out); have HB3 := Lib.hid (HB2.out.trans (b3.mono (by omega))); clear c0 c1 f0 f1; obtain ⟨c0, c1, f0, f1⟩ := key_cells HC3.out)
      refine bodyPost_ret (v := .tuple #[.agg #[.int .i64 26, .string ⟨(pl L).toArray⟩], .int .i64 ((a : Int) + 6)]) (results_key2 rfl rfl (key_set HC3.out _ _) rfl) rfl ⟨?_, below_set2 HB3.out (Nat.le_refl _)⟩
      rw [HO.out, A3.out]; rfl
end Go.Proofs.YticaeflnpgbngaaDoor
