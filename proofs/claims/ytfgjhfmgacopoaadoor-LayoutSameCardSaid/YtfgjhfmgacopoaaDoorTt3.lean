import Derived.Test.YtfgjhfmgacopoaaDoorTt1
import Derived.Test.YtfgjhfmgacopoaaDoorSh
import Derived.Test.YtfgjhfmgacopoaaDoorIn2
import Derived.Test.YtfgjhfmgacopoaaDoorCv
import Derived.Test.YtfgjhfmgacopoaaDoorKa
import Derived.Test.YtfgjhfmgacopoaaDoorWf
namespace Go.Proofs.YtfgjhfmgacopoaaDoor
set_option linter.unusedVariables false
set_option linter.unusedSimpArgs false
open Go.RowKit Go.Shelf
/-- The tables of unicode/utf8, as they are laid. -/
def U8 (w : World) : Prop := Lib.Utf8Tabs 0 1 w
theorem U8.later {w w' : World} (h : U8 w) (hb : Below w.heap.size w w') : U8 w' := Utf8Tabs_below h hb
theorem mapD_runes (f : Int → Int) : ∀ (n : Nat) (l : Bs), l.length ≤ n → Lib.mapD f l = (runes l).flatMap fun (r : Nat) => if 0 ≤ f (r : Int) then Lib.encodeRune (f (r : Int)) else [] := by
  intro n
  induction n with
  | zero =>
    intro l h
    have : l = [] := List.eq_nil_of_length_eq_zero (by omega)
    subst this; rfl
  | succ n ih =>
    intro l h
    by_cases h0 : l = []
    · subst h0; rfl
    · have hd : Lib.decodeL l = dec l := by
        unfold Lib.decodeL
        rw [decode_dec]; rfl
      have hp := dec_pos l
      have hl := List.length_pos_iff.2 h0
      rw [Lib.mapD_step f l h0, hd, runes_cons h0, List.flatMap_cons, ih _ (by rw [List.length_drop]; omega)]
theorem encodeRune_enc {r : Nat} (h : Utf8.valid (r : Int) = true) : Lib.encodeRune (r : Int) = enc r := by
  rw [enc_eq h]
  have hv := (valid_iff _).1 h
  unfold Lib.encodeRune Lib.encodeRuneZ encN o8
  have e : ∀ n : Nat, ((n : Int).toNat).toUInt8 = UInt8.ofNat n := fun n => rfl
  by_cases h1 : r < 128
  · rw [if_pos (by omega), if_pos h1]
    simp only [List.map_cons, List.map_nil]
    rw [e]
  · rw [if_neg (by omega), if_neg h1]
    by_cases h2 : r < 2048
    · rw [if_pos (by omega), if_pos h2]
      simp only [List.map_cons, List.map_nil]
      rw [show (192 + (r : Int) / 64) = ((192 + r / 64 : Nat) : Int) by omega, show (128 + (r : Int) % 64) = ((128 + r % 64 : Nat) : Int) by omega, e, e]
    · rw [if_neg (by omega), if_neg h2]
      by_cases h3 : r < 65536
      · rw [if_pos (by omega), if_pos h3]
        simp only [List.map_cons, List.map_nil]
        rw [show (224 + (r : Int) / 4096) = ((224 + r / 4096 : Nat) : Int) by omega, show (128 + (r : Int) / 64 % 64) = ((128 + r / 64 % 64 : Nat) : Int) by omega, show (128 + (r : Int) % 64) = ((128 + r % 64 : Nat) : Int) by omega, e, e, e]
      · rw [if_neg (by omega), if_neg h3, if_pos (by omega)]
        simp only [List.map_cons, List.map_nil]
        rw [show (240 + (r : Int) / 262144) = ((240 + r / 262144 : Nat) : Int) by omega, show (128 + (r : Int) / 4096 % 64) = ((128 + r / 4096 % 64 : Nat) : Int) by omega, show (128 + (r : Int) / 64 % 64) = ((128 + r / 64 % 64 : Nat) : Int) by omega, show (128 + (r : Int) % 64) = ((128 + r % 64 : Nat) : Int) by omega, e, e, e, e]
theorem fP_val {r : Int} (h : Utf8.valid r = true) (h0 : 0 ≤ fP r) : Utf8.valid (fP r) = true := by
  unfold fP at h0 ⊢
  by_cases h1 : r = 9 ∨ r = 10 ∨ r = 13
  · rw [if_pos h1]; decide
  · rw [if_neg h1] at h0 ⊢
    by_cases h2 : ctl r = true
    · rw [if_pos h2] at h0; omega
    · rw [if_neg h2]; exact h
theorem flatMap_same {α β : Type} {f g : α → List β} : (l : List α) → (∀ x ∈ l, f x = g x) → l.flatMap f = l.flatMap g
  | [], _ => rfl
  | x :: l, h => by rw [List.flatMap_cons, List.flatMap_cons, h x (List.mem_cons_self ..), flatMap_same l fun y hy => h y (List.mem_cons_of_mem _ hy)]
theorem mapD_pl (l : Bs) : Lib.mapD fP (clean l) = pl l := by
  rw [mapD_runes fP _ _ (Nat.le_refl _), runes_clean']
  unfold pl ps
  rw [List.flatMap_assoc]
  refine flatMap_same _ fun r hr => ?_
  by_cases h : 0 ≤ fP (r : Int)
  · rw [if_pos h, if_pos h]
    simp only [List.flatMap_cons, List.flatMap_nil, List.append_nil]
    have e : ((fP (r : Int)).toNat : Int) = fP (r : Int) := by omega
    have hv := fP_val (runes_val l r hr) h
    rw [← e] at hv
    have := encodeRune_enc hv
    rwa [e] at this
  · rw [if_neg h, if_neg h]; rfl
theorem pl_len (l : Bs) : (pl l).length ≤ 4 * l.length := by
  have h1 := flat_len (ps l)
  have h2 : (ps l).length ≤ (runes l).length := by
    unfold ps
    induction runes l with
    | nil => simp
    | cons r rs ih =>
      rw [List.flatMap_cons, List.length_append, List.length_cons]
      have : (if 0 ≤ fP (r : Int) then [(fP (r : Int)).toNat] else []).length ≤ 1 := by split <;> simp
      omega
  have h3 := runes_length l
  unfold pl
  omega
set_option maxHeartbeats 800000 in
/-- The function value that Plain hands on. -/
theorem Plain1_calls (r : Int) (h0 : 0 ≤ r) (h1 : r ≤ 1114111) (w : World) :
    Calls Tryd.prog 63 #[.int .i32 r] w fun e w' => e = .returned (.int .i32 (fP r)) ∧ Below w.heap.size w w' := by
  by_cases h9 : r = 9
  · subst h9
    go_enter Tryd.func63, Tryd.ntmps63
    go_wp2
    go_ret
    exact ⟨rfl, Below.refl _ _⟩
  by_cases h10 : r = 10
  · subst h10
    go_enter Tryd.func63, Tryd.ntmps63
    go_wp2
    go_ret
    exact ⟨rfl, Below.refl _ _⟩
  by_cases h13 : r = 13
  · subst h13
    go_enter Tryd.func63, Tryd.ntmps63
    go_wp2
    go_ret
    exact ⟨rfl, Below.refl _ _⟩
  have d9 : (r == 9) = false := by simpa using h9
  have d10 : (r == 10) = false := by simpa using h10
  have d13 : (r == 13) = false := by simpa using h13
  have hf : fP r = if ctl r = true then -1 else r := by unfold fP; rw [if_neg (by omega)]
  have HF := Lib.hid hf
  clear hf h9 h10 h13
  cases hc : ctl r with
  | true =>
    have hq := Control_calls r w
    rw [hc] at hq
    have HQ := Lib.hid hq
    rw [hc] at HF
    clear hq hc
    go_enter Tryd.func63, Tryd.ntmps63
    go_wp2_with fail
    refine HQ.out.mono ?_
    rintro e w1 ⟨rfl, hb⟩
    go_wp2
    go_ret
    exact ⟨by rw [HF.out]; rfl, hb⟩
  | false =>
    have hq := Control_calls r w
    rw [hc] at hq
    have HQ := Lib.hid hq
    rw [hc] at HF
    clear hq hc
    go_enter Tryd.func63, Tryd.ntmps63
    go_wp2_with fail
    refine HQ.out.mono ?_
    rintro e w1 ⟨rfl, hb⟩
    go_wp2
    go_ret
    exact ⟨by rw [HF.out]; rfl, hb⟩
theorem fP_range (x : Nat) (h : x ≤ 1114111) : -2147483648 ≤ fP x ∧ fP x ≤ 2147483647 := by
  unfold fP
  split
  · omega
  · split <;> omega
theorem Plain1_grows (w : World) : MapGrows Tryd.prog 63 #[] fP w := fun W x hx hb => by
  have := Plain1_calls (x : Int) (by omega) (by omega) W
  simpa [encR] using this
theorem cv8 {s : ByteArray} {c : Bs} (hs : s = ⟨c.toArray⟩) (hc : c.length ≤ 4294967296) (w : World) : ∃ cap W, (convert 9 61 (.string s)).run Tryd.prog w = .ok (.slice (some ⟨w.heap.size, 0, none⟩) c.length cap) W ∧ c.length ≤ cap ∧ RdB W (some ⟨w.heap.size, 0, none⟩) c ∧ Below w.heap.size w W := by
  obtain ⟨cap, W, a, b, _, d, e⟩ := conv_bytes (P := Tryd.prog) w _ _ _ c Tryd.underlying9 Tryd.underlying61 Tryd.underlying5 (by simp only [maxLen]; omega)
  exact ⟨cap, W, by rw [hs]; exact a, b, d, e⟩
set_option maxHeartbeats 800000 in
/-- Plain. -/
theorem Plain_calls (l : Bs) (hl : l.length ≤ 1000000000) (s : ByteArray) (hs : s = ⟨l.toArray⟩) (w : World) (hU : U8 w) :
    Calls Tryd.prog 54 #[.string s] w fun e w' => e = .returned (.string ⟨(pl l).toArray⟩) ∧ Below w.heap.size w w' := by
  obtain ⟨cap, W, hcv, hcap, hrd, hb0⟩ := cv8 hs (by omega) w
  have HU := Lib.hid hU
  have HR := Lib.hid hrd
  have hcl := clean_len l
  have q1 := Clean_calls (some ⟨w.heap.size, 0, none⟩) cap l W hrd (by omega)
  have Q1 := Lib.hid q1
  obtain ⟨sc, hsc⟩ : ∃ s : ByteArray, s = ⟨(clean l).toArray⟩ := ⟨_, rfl⟩
  have hsz : sc.size = (clean l).length := by rw [hsc, str_of]
  have q2 := fun (W' : World) (h : U8 W') => Tryd.strings_Map_grows 63 #[] (enters_of Tryd.func63 (by kernel_rfl) rfl) fP sc W' (by omega) (Plain1_grows W') fP_range h
  rw [show sc.data.toList = clean l by rw [hsc], mapD_pl] at q2
  have Q2 := Lib.hid q2
  have HSC := Lib.hid hsc
  clear hU hrd q1 q2 hsz hsc hs
  go_enter Tryd.func54, Tryd.ntmps54
  go_wp2_with fail
  refine Q1.out.mono ?_
  rintro e w1 ⟨rfl, hb1⟩
  rw [← HSC.out]
  have B1 := hb0.trans (hb1.mono hb0.size)
  go_wp2_with fail
  refine (Q2.out w1 (HU.out.later B1)).mono ?_
  rintro e w2 ⟨rfl, hb2⟩
  go_wp2
  go_ret
  exact ⟨rfl, B1.trans (hb2.mono B1.size)⟩
end Go.Proofs.YtfgjhfmgacopoaaDoor
namespace Go.Proofs.YtfgjhfmgacopoaaDoor
set_option linter.unusedVariables false
set_option linter.unusedSimpArgs false
open Go.RowKit Go.Shelf
theorem take_fold (a : Int) (bs : List Nat) (k : Nat) (x : Nat) (h : bs[k]? = some x) : bkV (bs.take (k + 1)) a = if (x : Int) ≤ a then x else bkV (bs.take k) a := by
  unfold bkV
  rw [List.take_add_one, h, List.foldl_append]; rfl
theorem bkV_le (a : Int) (bs : List Nat) (M : Nat) (h : ∀ x ∈ bs, x ≤ M) : bkV bs a ≤ M := by
  unfold bkV
  rcases fold_last a bs 0 with ⟨_, e⟩ | ⟨l1, x, l2, e1, _, _, e⟩
  · rw [e]; omega
  · rw [e]; exact h x (by rw [e1]; simp)
theorem on_find (a : Int) (bs : List Nat) (n k : Nat) (x : Nat) (h : bs[k]? = some x) (hk : ∀ y ∈ bs.take k, (y : Int) < a) (hx : a ≤ (x : Int)) : onV bs n a = x := by
  obtain ⟨hlt, he⟩ := List.getElem?_eq_some_iff.1 h
  have e : bs.find? (fun (y : Nat) => decide (a ≤ (y : Int))) = some x := by
    refine List.find?_eq_some_iff_append.2 ⟨by simpa using hx, bs.take k, bs.drop (k + 1), ?_, fun y hy => ?_⟩
    · rw [← he, ← List.drop_eq_getElem_cons hlt, List.take_append_drop]
    · have := hk y hy
      simp; omega
  unfold onV
  rw [e]
theorem on_none (a : Int) (bs : List Nat) (n : Nat) (hk : ∀ y ∈ bs, (y : Int) < a) : onV bs n a = n := by
  have e : bs.find? (fun (y : Nat) => decide (a ≤ (y : Int))) = none := List.find?_eq_none.2 fun y hy => by have := hk y hy; simp; omega
  unfold onV
  rw [e]
end Go.Proofs.YtfgjhfmgacopoaaDoor
