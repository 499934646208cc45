import Derived.Test.YticaeflnpgbngaaDoorKw9
import Derived.Lib.SlBytesConst
namespace Go.Proofs.YticaeflnpgbngaaDoor
set_option linter.unusedVariables false
set_option linter.unusedSimpArgs false
open Go.RowKit Go.Maps
/-! A decoder that a law holds. -/
def Ses (w : World) (db : Nat) (d : Dc) (W : World) : Prop := ∃ fp, Di W db d fp ∧ (∀ b ∈ fp, w.heap.size ≤ b) ∧ Below w.heap.size w W
theorem Ses.below {w : World} {db : Nat} {d : Dc} {W : World} (h : Ses w db d W) : Below w.heap.size w W := by obtain ⟨_, _, _, h⟩ := h; exact h
theorem Ses.later {w : World} {db : Nat} {d : Dc} {W W' : World} (h : Ses w db d W) (hb : Below W.heap.size W W') : Ses w db d W' := by
  obtain ⟨fp, h1, h2, h3⟩ := h
  exact ⟨fp, h1.later hb, h2, h3.trans (hb.mono h3.size)⟩
theorem Ses.step {w : World} {db : Nat} {d2 : Dc} {W W' : World} {fp : List Nat} (h2 : ∀ b ∈ fp, w.heap.size ≤ b) (h3 : Below w.heap.size w W) (h : Mv W db fp d2 W') : Ses w db d2 W' := by
  obtain ⟨fp', hd, hf, hm⟩ := h
  refine ⟨fp', hd, fun b hb => ?_, ((Fr.of_below h3).trans hf fun i _ e => h2 i e).below (Nat.le_refl _) fun k _ e => e⟩
  rcases hm b hb with e | e
  · exact h2 b e
  · exact Nat.le_trans h3.size e
def decZ : Array Value := #[.int .i64 0, .slice none 0 0, .slice none 0 0, .int .i64 0, .string ⟨#[]⟩, .int .i64 0]
theorem Ses.new (w W : World) (h : Below w.heap.size w W) : Ses w W.heap.size Dc.new (W.alloc (.cells decZ 29)) :=
  ⟨_, ⟨.slice none 0 0, .slice none 0 0, ⟨heap_alloc_new W _, Row.nil _ _ _ _, Row.nil _ _ _ _, fun g e => by simp [Value.ownBlock] at e⟩, rfl⟩, fun b hb => by
    rcases List.mem_cons.1 hb with e | e
    · rw [e]; exact h.size
    · simp [rbK, Value.ownBlock] at e, h.alloc h.size _⟩
theorem U8.fr {w W : World} (hU : U8 w) {fp : List Nat} (h2 : ∀ b ∈ fp, w.heap.size ≤ b) (h3 : Below w.heap.size w W) : ∀ w', Fr (fun k => k ∈ fp) W w' → U8 w' := fun w' hf =>
  hU.later (((Fr.of_below h3).trans hf fun i _ e => h2 i e).below (Nat.le_refl _) fun k _ e => e)
/-- What a call does to the decoder that a law holds, and to rows of keys. -/
def TellsS (w : World) (db : Nat) (W : World) (o : Out) (e : Ending) (W' : World) : Prop := ∃ v, e = .returned v ∧ RowK W' W.heap.size v o.1 ∧ Ses w db o.2 W' ∧ ∀ B v l, RowK W B v l → RowK W' B v l
theorem TellsS.of {w : World} {db : Nat} {d : Dc} {W W' : World} {fp : List Nat} {o : Out} {e : Ending} (h1 : Di W db d fp) (h2 : ∀ b ∈ fp, w.heap.size ≤ b) (h3 : Below w.heap.size w W) (h : TellsK W db fp o e W') : TellsS w db W o e W' := by
  obtain ⟨v, he, hr, hm⟩ := h
  exact ⟨v, he, hr, Ses.step h2 h3 hm, fun B v l hv => Mv.row h1 hm hv⟩
theorem sPut_calls {w : World} {db : Nat} {d : Dc} {W : World} (h : Ses w db d W) (hU : U8 w) {b : Bs} (hr : RelD d b) (hb : b.length ≤ 90000) (x : UInt8) : Calls Tryd.prog 17 #[dptr db, byt x] W (TellsS w db W (putD d x)) := by
  obtain ⟨fp, h1, h2, h3⟩ := h
  exact (kPut_calls h1 x hr hb (U8.fr hU h2 h3)).mono fun e W' h => TellsS.of h1 h2 h3 h
theorem sTick_calls {w : World} {db : Nat} {d : Dc} {W : World} (h : Ses w db d W) {b : Bs} (hr : RelD d b) (ha : d.ag ≤ 1000) : Calls Tryd.prog 15 #[dptr db] W (TellsS w db W (tickD d)) := by
  obtain ⟨fp, h1, h2, h3⟩ := h
  exact (kTick_calls h1 hr ha).mono fun e W' h => TellsS.of h1 h2 h3 h
theorem sFeed_calls {w : World} {db : Nat} {d : Dc} {W1 W : World} (h : Ses w db d W1) (hW : Below W1.heap.size W1 W) (hU : U8 w) {b : Bs} (hr : RelD d b) (A : Option Addr) (c : Nat) (l : Bs) (hA : RdB W A l) (hoff : ∀ a, A = some a → l ≠ [] → a.block < w.heap.size ∨ W1.heap.size ≤ a.block) (hb : b.length + l.length ≤ 80000) :
    Calls Tryd.prog 21 #[dptr db, .slice A l.length c] W (TellsS w db W (feedD d l)) := by
  obtain ⟨fp, h1, h2, h3⟩ := h
  have h4 := h3.trans (hW.mono h3.size)
  refine (kFeed_calls (h1.later hW) hr A c l hA (fun a ha hne hm => ?_) hb (U8.fr hU h2 h4)).mono fun e W' h => TellsS.of (h1.later hW) h2 h4 h
  have h5 := h2 _ hm
  have h6 := h1.lt _ hm
  rcases hoff a ha hne with e | e <;> omega
theorem sWaits_calls {w : World} {db : Nat} {d : Dc} {W : World} (h : Ses w db d W) : Calls Tryd.prog 18 #[dptr db] W fun e W' => e = .returned (.bool (waitsD d)) ∧ W = W' := by
  obtain ⟨fp, h1, h2, h3⟩ := h
  exact WaitsD_calls h1
theorem sPasting_calls {w : World} {db : Nat} {d : Dc} {W : World} (h : Ses w db d W) : Calls Tryd.prog 19 #[dptr db] W fun e W' => e = .returned (.bool (decide (d.ph = 4))) ∧ W = W' := by
  obtain ⟨fp, h1, h2, h3⟩ := h
  exact Pasting_calls h1
/-! alive. -/
theorem al4_1 : feedD Dc.new [97, 27, 91, 68, 27, 98] = ([⟨1, [97]⟩, kb 5, kb 9], Dc.new) := by decide +kernel
theorem al4_2 : putD Dc.new 27 = ([], ⟨1, [], [], 0, [], 0⟩) := by decide +kernel
theorem al4_3 : tickD ⟨1, [], [], 0, [], 0⟩ = ([], ⟨1, [], [], 0, [], 1⟩) := by decide +kernel
theorem al4_4 : tickD ⟨1, [], [], 0, [], 1⟩ = ([kb 27], Dc.new) := by decide +kernel
theorem al4_5 : feedD Dc.new [27, 91, 50, 48, 48, 126, 120, 10, 121] = ([], ⟨4, [], [120, 10, 121], 3, [120, 10, 121], 0⟩) := by decide +kernel
theorem al4_6 : feedD ⟨4, [], [120, 10, 121], 3, [120, 10, 121], 0⟩ [27, 91, 50, 48, 49, 126] = ([⟨26, [120, 32, 121]⟩], Dc.new) := by decide +kernel
end Go.Proofs.YticaeflnpgbngaaDoor
namespace Go.Proofs.YticaeflnpgbngaaDoor
set_option linter.unusedVariables false
set_option linter.unusedSimpArgs false
open Go.RowKit Go.Maps
theorem rd_new_bytes (W : World) (l : Bs) (fr : Nat × Nat) : RdB (W.alloc (.cells (l.map byt).toArray 5 fr)) (some ⟨W.heap.size, 0, none⟩) l := by
  intro k u hk
  refine ⟨_, _, rfl, ?_⟩
  rw [cell_of_row _ W.heap.size _ _ _ fr (heap_alloc_new W (.cells (l.map byt).toArray 5 fr))]
  simpa using hk
def al1 : Bs := [97, 27, 91, 68, 27, 98]
def al2 : Bs := [27, 91, 50, 48, 48, 126, 120, 10, 121]
def al3 : Bs := [27, 91, 50, 48, 49, 126]
set_option maxRecDepth 100000 in
set_option maxHeartbeats 3200000 in
theorem al04_calls (w : World) (hU : U8 w) : Calls Tryd.prog 12 #[] w fun e w' => e = .returned (.bool true) ∧ Below w.heap.size w w' := by
  have S0 := Lib.hid (Ses.new w w (Below.refl _ _))
  have HU := Lib.hid hU
  unfold decZ at S0
  obtain ⟨db, hdb⟩ : ∃ db, db = w.heap.size := ⟨_, rfl⟩
  obtain ⟨W0, hW0⟩ : ∃ W0, W0 = w.alloc (.cells #[.int .i64 0, .slice none 0 0, .slice none 0 0, .int .i64 0, .string ⟨#[]⟩, .int .i64 0] 29) := ⟨_, rfl⟩
  rw [← hW0, ← hdb] at S0
  have HDB := Lib.hid hdb
  have HW0 := Lib.hid hW0
  have hsz0 : W0.heap.size = w.heap.size + 1 := by rw [hW0]; simp
  clear hU hdb hW0
  have F1 := Lib.hid (fun (W1 : World) (h : Ses w db Dc.new W1) => sFeed_calls h ((Below.refl W1.heap.size W1).alloc (Nat.le_refl _) (.cells (al1.map byt).toArray 5 (6, 7))) HU.out RelD.new (some ⟨W1.heap.size, 0, none⟩) 6 al1 (rd_new_bytes _ _ _) (fun a ha _ => .inr (by cases ha; exact Nat.le_refl _)) (by decide))
  have F2 := Lib.hid (fun (W1 : World) (h : Ses w db Dc.new W1) => sFeed_calls h ((Below.refl W1.heap.size W1).alloc (Nat.le_refl _) (.cells (al2.map byt).toArray 5 (9, 10))) HU.out RelD.new (some ⟨W1.heap.size, 0, none⟩) 9 al2 (rd_new_bytes _ _ _) (fun a ha _ => .inr (by cases ha; exact Nat.le_refl _)) (by decide))
  obtain ⟨c5, h5, h5l⟩ := feed_relL al2 RelD.new
  have F3 := Lib.hid (fun (W1 : World) (h : Ses w db (feedD Dc.new al2).2 W1) => sFeed_calls h ((Below.refl W1.heap.size W1).alloc (Nat.le_refl _) (.cells (al3.map byt).toArray 5 (6, 7))) HU.out h5 (some ⟨W1.heap.size, 0, none⟩) 6 al3 (rd_new_bytes _ _ _) (fun a ha _ => .inr (by cases ha; exact Nat.le_refl _)) (by have : al2.length = 9 := rfl; have : al3.length = 6 := rfl; simp at h5l; omega))
  have P1 := Lib.hid (fun (W1 : World) (h : Ses w db Dc.new W1) => sPut_calls h HU.out RelD.new (by decide) 27)
  have hr2 := (put_rel RelD.new 27).2
  have T1 := Lib.hid (fun (W1 : World) (h : Ses w db (putD Dc.new 27).2 W1) => sTick_calls h hr2 (by rw [al4_2]; decide))
  obtain ⟨_, hr3, _⟩ := tick_rel hr2 (by rw [al4_2]; decide)
  have T2 := Lib.hid (fun (W1 : World) (h : Ses w db (tickD (putD Dc.new 27).2).2 W1) => sTick_calls h hr3 (by rw [al4_2, al4_3]; decide))
  have e1 : feedD Dc.new al1 = ([⟨1, [97]⟩, kb 5, kb 9], Dc.new) := al4_1
  have e5 : feedD Dc.new al2 = ([], ⟨4, [], [120, 10, 121], 3, [120, 10, 121], 0⟩) := al4_5
  have e6 : feedD (feedD Dc.new al2).2 al3 = ([⟨26, [120, 32, 121]⟩], Dc.new) := by rw [e5]; exact al4_6
  have e2 := al4_2
  have e3 : tickD (putD Dc.new 27).2 = ([], ⟨1, [], [], 0, [], 1⟩) := by rw [e2]; exact al4_3
  have e4 : tickD (tickD (putD Dc.new 27).2).2 = ([kb 27], Dc.new) := by rw [e3]; exact al4_4
  rw [e1] at F1
  rw [e6] at F3
  rw [e5] at F2 F3
  rw [e4] at T2
  rw [e3] at T1 T2
  rw [e2] at P1 T1
  have hv1 : flatK [⟨1, [97]⟩, kb 5, kb 9] = [.int .i64 1, .string ⟨#[97]⟩, .int .i64 5, .string ⟨#[]⟩, .int .i64 9, .string ⟨#[]⟩] := rfl
  have HV1 := Lib.hid hv1
  have g0 : ∀ W, (binOp .eql 46 (.agg #[.int .i64 1, .string ⟨#[97]⟩]) (.agg #[.int .i64 1, .string ⟨#[97]⟩])).run Tryd.prog W = .ok (.bool true) W := fun _ => by kernel_rfl
  have ge1 : ∀ W, (binOp .eql 46 (.agg #[.int .i64 5, .string ⟨#[]⟩]) (.agg #[.int .i64 5, .string ⟨#[]⟩])).run Tryd.prog W = .ok (.bool true) W := fun _ => by kernel_rfl
  have g2 : ∀ W, (binOp .eql 46 (.agg #[.int .i64 26, .string ⟨#[120, 32, 121]⟩]) (.agg #[.int .i64 26, .string ⟨#[120, 32, 121]⟩])).run Tryd.prog W = .ok (.bool true) W := fun _ => by kernel_rfl
  have hl1 : al1.map byt = [.int .u8 97, .int .u8 27, .int .u8 91, .int .u8 68, .int .u8 27, .int .u8 98] := rfl
  have hl2 : al2.map byt = [.int .u8 27, .int .u8 91, .int .u8 50, .int .u8 48, .int .u8 48, .int .u8 126, .int .u8 120, .int .u8 10, .int .u8 121] := rfl
  have hl3 : al3.map byt = [.int .u8 27, .int .u8 91, .int .u8 50, .int .u8 48, .int .u8 49, .int .u8 126] := rfl
  rw [hl1] at F1
  rw [hl2] at F2
  rw [hl3] at F3
  rw [show al1.length = 6 from rfl] at F1
  rw [show al2.length = 9 from rfl] at F2
  rw [show al3.length = 6 from rfl] at F3
  have hcv : ∀ (W : World) (C : Array Value) (n c : Nat), (convert 25 25 (.slice (some ⟨W.heap.size, 0, none⟩) n c)).run Tryd.prog (W.alloc (.cells C 5)) = .ok (.slice (some ⟨W.heap.size, 0, none⟩) n c) (W.alloc (.cells C 5 (C.size, C.size + 1))) := fun W C n c => Lib.run_convert_bytes_const W _ _ C n c Tryd.underlying25 Tryd.underlying5
  clear e1 e2 e3 e4 e5 e6 hr2 hr3 h5 h5l hv1 hl1 hl2 hl3
  go_enter Tryd.func12, Tryd.ntmps12
  have hszd : W0.heap.size = db + 1 := by rw [hsz0, HDB.out]
  have q1 := F1.out W0 S0.out
  rw [hszd] at q1
  have hcv0 := fun C n c => hcv W0 C n c
  rw [hszd, HW0.out, HDB.out] at hcv0
  go_wp2_with fail
  rw [← HW0.out, ← HDB.out]
  refine q1.mono ?_
  rintro e w1 ⟨v1, rfl, hv1, S1, _⟩
  obtain ⟨A1, c1, rfl, _, _, hr1, _⟩ := hv1.rd
  go_wp2_with fail
  refine (P1.out w1 S1).mono ?_
  rintro e w2 ⟨v2, rfl, _, S2, k2⟩
  go_wp2_with fail
  refine (sWaits_calls S2).mono ?_
  rintro e w2' ⟨rfl, rfl⟩
  go_wp2_with fail
  refine (T1.out w2 S2).mono ?_
  rintro e w3 ⟨v3, rfl, hv3, S3, k3⟩
  obtain ⟨A3, c3, rfl, _⟩ := hv3.rd
  go_wp2_with fail
  refine (T2.out w3 S3).mono ?_
  rintro e w4 ⟨v4, rfl, hv4, S4, k4⟩
  obtain ⟨A4, c4, rfl, _⟩ := hv4.rd
  go_wp2_with fail
  refine (F2.out w4 S4).mono ?_
  rintro e w5 ⟨v5, rfl, hv5, S5, k5⟩
  obtain ⟨A5, c5, rfl, _⟩ := hv5.rd
  go_wp2_with fail
  refine (sPasting_calls S5).mono ?_
  rintro e w5' ⟨rfl, rfl⟩
  have n5 : Below w4.heap.size w4 (w4.alloc (.cells #[.int .u8 27, .int .u8 91, .int .u8 50, .int .u8 48, .int .u8 48, .int .u8 126, .int .u8 120, .int .u8 10, .int .u8 121] 5 (9, 10))) := (Below.refl _ _).alloc (Nat.le_refl _) _
  go_wp2_with fail
  refine (F3.out w5 S5).mono ?_
  rintro e w6 ⟨v6, rfl, hv6, S6, k6⟩
  obtain ⟨A6, c6, rfl, _, _, hr6, _⟩ := hv6.rd
  have n6 : Below w5.heap.size w5 (w5.alloc (.cells #[.int .u8 27, .int .u8 91, .int .u8 50, .int .u8 48, .int .u8 49, .int .u8 126] 5 (6, 7))) := (Below.refl _ _).alloc (Nat.le_refl _) _
  have hv16 := k6 _ _ _ ((k5 _ _ _ ((k4 _ _ _ (k3 _ _ _ (k2 _ _ _ hv1))).below n5 (Nat.le_refl _))).below n6 (Nat.le_refl _))
  have hv46 := k6 _ _ _ ((k5 _ _ _ (hv4.below n5 (Nat.le_refl _))).below n6 (Nat.le_refl _))
  obtain ⟨A1', c1', e9, _, _, hr1, _⟩ := hv16.rd
  cases e9
  rw [HV1.out] at hr1
  obtain ⟨g1, o1, rfl, x0⟩ := hr1 0 _ rfl
  obtain ⟨_, _, e9, x1⟩ := hr1 1 _ rfl
  cases e9
  obtain ⟨_, _, e9, x2⟩ := hr1 2 _ rfl
  cases e9
  obtain ⟨_, _, e9, x3⟩ := hr1 3 _ rfl
  cases e9
  obtain ⟨_, _, e9, x4⟩ := hr1 4 _ rfl
  cases e9
  obtain ⟨A4', c4', e9, _, _, hr4, _⟩ := hv46.rd
  cases e9
  obtain ⟨g4, o4, rfl, y0⟩ := hr4 0 (.int .i64 27) rfl
  obtain ⟨g6, o6, rfl, z0⟩ := hr6 0 (.int .i64 26) rfl
  obtain ⟨_, _, e9, z1⟩ := hr6 1 (.string ⟨#[120, 32, 121]⟩) rfl
  cases e9
  have x0' : w6.cell? ⟨g1, o1, none⟩ = some (.int .i64 1) := x0
  have y0' : w6.cell? ⟨g4, o4, none⟩ = some (.int .i64 27) := y0
  have z0' : w6.cell? ⟨g6, o6, none⟩ = some (.int .i64 26) := z0
  have hwt : waitsD ⟨1, [], [], 0, [], 0⟩ = true := rfl
  have HB6 := Lib.hid S6.below
  have l1 : ([⟨1, [97]⟩, kb 5, kb 9] : List KeyT).length = 3 := rfl
  have l4 : ([kb 27] : List KeyT).length = 1 := rfl
  have l6 : ([⟨26, [120, 32, 121]⟩] : List KeyT).length = 1 := rfl
  clear F1 F2 F3 P1 T1 T2 hr1 hr4 hr6 hv1 hv3 hv4 hv5 hv6 hv16 hv46 k2 k3 k4 k5 k6 S0 S1 S2 S3 S4 S5 S6 n5 n6 x0 y0 z0
  go_wp2
  go_ret
  exact ⟨rfl, HB6.out⟩
end Go.Proofs.YticaeflnpgbngaaDoor
