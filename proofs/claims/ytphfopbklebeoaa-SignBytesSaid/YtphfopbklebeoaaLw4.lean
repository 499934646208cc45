import Derived.Test.YtphfopbklebeoaaLw3
namespace Go.Proofs.Ytphfopbklebeoaa
open Go.RowKit
theorem alloc_size (w : World) (o : Obj) : (w.alloc o).heap.size = w.heap.size + 1 := by simp
/-- 'string(rune)' by way of a row of one. -/
theorem rune_str (w : World) (x : Int) (W : World) (hW : W = w.alloc (.cells #[.int .i32 x] 21)) :
    (convert 29 9 (.slice (some ⟨w.heap.size, 0, none⟩) 1 1)).run Try.prog W = .ok (.string (runesBytes [x])) W := by
  subst hW
  exact run_runes (P := Try.prog) _ _ 21 _ Try.underlying29 Try.underlying21 Try.underlying9 _ [x] 1 1 rfl (Rd.new1 _ _ _)
theorem runesBytes_one (x : Int) : runesBytes [x] = ⟨(bl (Utf8.encode x)).toArray⟩ := by
  rw [← ba_eq (runesBytes [x]), runesBytes_toList]
  simp
theorem bl_encode_not (i : Int) (h : Utf8.valid i = false) : bl (Utf8.encode i) = [239, 191, 189] := by
  unfold Utf8.encode bl
  simp only [h, Bool.false_eq_true, if_false]
  decide +kernel
theorem rb_nil_iff (r : Int) : rb r = [] ↔ Utf8.valid r = false := by
  unfold rb
  constructor
  · intro h
    split at h
    · rename_i hv
      have := congrArg List.length h
      rw [encN_len] at this
      repeat' split at this
      all_goals simp at this
    · rename_i hv; simpa using hv
  · intro h; rw [if_neg (by simp [h])]
theorem cl2 : clean [239, 191, 189] = [239, 191, 189] := by decide +kernel
set_option maxHeartbeats 3200000 in
set_option maxRecDepth 100000 in
theorem SignBytes_walk (r : Int) (A : Option Addr) (c : Nat) (l : Bs) (w : World) (hr : RdB w A l) (hr1 : -9223372036854775808 ≤ r) (hr2 : r ≤ 9223372036854775807) :
    Calls Try.prog 5 #[.int .i64 r, .slice A l.length c] w fun e w' => e = .returned (.bool true) ∧ Below w.heap.size w w' := by
  have HR := Lib.hid hr
  clear hr
  have hrl := rb_len r
  by_cases hbig : 100 < l.length
  · go_enter Try.func5, Try.ntmps5
    go_wp2_with fail
    refine (Bytes_calls r w).mono ?_
    rintro e w1 ⟨v1, rfl, hrow1, hb1⟩
    clear hrow1
    go_wp2_with fail
    refine (alive_calls _).mono ?_
    rintro e w2 ⟨rfl, hb2⟩
    go_wp2
    go_ret
    exact ⟨rfl, hb1.trans (hb2.mono hb1.size)⟩
  by_cases hv : Utf8.valid r = true
  case neg =>
    have hn : rb r = [] := (rb_nil_iff r).2 (by simpa using hv)
    have hvi := valid_iff r
    obtain ⟨x, hx⟩ : ∃ x : Int, x = min (max r (-1)) 1114112 := ⟨_, rfl⟩
    have hxv : Utf8.valid x = false := by
      rw [Bool.eq_false_iff]
      intro h
      have := (valid_iff x).1 h
      apply hv
      rw [hvi]
      omega
    go_enter Try.func5, Try.ntmps5
    go_wp2_with fail
    refine (Bytes_calls r w).mono ?_
    rintro e w1 ⟨v1, rfl, hrow1, hb1⟩
    rw [hn] at hrow1
    obtain ⟨A1, c1, rfl, _, _, _, _⟩ := hrow1.rd
    clear hrow1
    go_wp2_with fail
    refine (alive_calls _).mono ?_
    rintro e w2 ⟨rfl, hb2⟩
    have B2 := hb1.trans (hb2.mono hb1.size)
    have key : ∀ y : Int, y = x → (convert 29 9 (.slice (some ⟨w2.heap.size, 0, none⟩) 1 1)).run Try.prog (w2.alloc (.cells #[.int .i32 y] 21)) = .ok (.string ⟨([239, 191, 189] : Bs).toArray⟩) (w2.alloc (.cells #[.int .i32 y] 21)) := by
      intro y hy
      rw [rune_str w2 y _ rfl, runesBytes_one, bl_encode_not y (by rw [hy]; exact hxv)]
    have KEY := Lib.hid key
    clear key
    have hcs : (r < -1 ∧ (-1 : Int) = x) ∨ (¬ r < -1 ∧ 1114112 < r ∧ (1114112 : Int) = x) ∨ (¬ r < -1 ∧ ¬ 1114112 < r ∧ r = x) := by omega
    clear hx hvi hxv hv hn
    rcases hcs with ⟨a1, hxe⟩ | ⟨a1, a2, hxe⟩ | ⟨a1, a2, hxe⟩
    · have hk := KEY.out (-1) hxe
      clear hxe
      obtain ⟨cap, W, hcv, hc7, hm7, hrd7, hb7⟩ := str_bytes (w2.alloc (.cells #[.int .i32 (-1)] 21)) [239, 191, 189] (by decide)
      rw [alloc_size] at hcv hrd7 hb7
      have B7 : Below w.heap.size w W := (B2.alloc B2.size _).trans (hb7.mono (by have := B2.size; omega))
      go_wp2_with fail
      clear hk hcv
      refine (Clean_calls _ cap [239, 191, 189] W hrd7 (by decide)).mono ?_
      rintro e w8 ⟨rfl, hb8⟩
      rw [cl2]
      go_wp2
      go_ret
      exact ⟨rfl, B7.trans (hb8.mono B7.size)⟩
    · have hk := KEY.out (1114112) hxe
      clear hxe
      obtain ⟨cap, W, hcv, hc7, hm7, hrd7, hb7⟩ := str_bytes (w2.alloc (.cells #[.int .i32 (1114112)] 21)) [239, 191, 189] (by decide)
      rw [alloc_size] at hcv hrd7 hb7
      have B7 : Below w.heap.size w W := (B2.alloc B2.size _).trans (hb7.mono (by have := B2.size; omega))
      go_wp2_with fail
      clear hk hcv
      refine (Clean_calls _ cap [239, 191, 189] W hrd7 (by decide)).mono ?_
      rintro e w8 ⟨rfl, hb8⟩
      rw [cl2]
      go_wp2
      go_ret
      exact ⟨rfl, B7.trans (hb8.mono B7.size)⟩
    · have hk := KEY.out (r) hxe
      clear hxe
      obtain ⟨cap, W, hcv, hc7, hm7, hrd7, hb7⟩ := str_bytes (w2.alloc (.cells #[.int .i32 (r)] 21)) [239, 191, 189] (by decide)
      rw [alloc_size] at hcv hrd7 hb7
      have B7 : Below w.heap.size w W := (B2.alloc B2.size _).trans (hb7.mono (by have := B2.size; omega))
      go_wp2_with fail
      clear hk hcv
      refine (Clean_calls _ cap [239, 191, 189] W hrd7 (by decide)).mono ?_
      rintro e w8 ⟨rfl, hb8⟩
      rw [cl2]
      go_wp2
      go_ret
      exact ⟨rfl, B7.trans (hb8.mono B7.size)⟩
  · have hrb : rb r = encN r.toNat := by unfold rb; rw [if_pos hv]
    have hv2 := (valid_iff r).1 hv
    obtain ⟨n, rfl⟩ := Int.eq_ofNat_of_zero_le (show 0 ≤ r by omega)
    rw [Int.toNat_natCast] at hrb
    rw [← enc_eq hv] at hrb
    have hne := enc_ne hv
    have hel := enc_len n
    have hnx : nxt (enc n ++ l) = (n, (enc n).length) := by rw [nxt_ne (by simp [hne]), dec_enc hv]
    have hwh := whole_enc hv
    have hst : ∀ w2 : World, (convert 29 9 (.slice (some ⟨w2.heap.size, 0, none⟩) 1 1)).run Try.prog (w2.alloc (.cells #[.int .i32 (n : Int)] 21)) = .ok (.string ⟨(enc n).toArray⟩) (w2.alloc (.cells #[.int .i32 (n : Int)] 21)) := by
      intro w2
      rw [rune_str w2 n _ rfl, runesBytes_one]
      rfl
    obtain ⟨bb, hbb⟩ : ∃ x : Bs, x = enc n := ⟨_, rfl⟩
    rw [← hbb] at hrb hne hel hnx hwh
    simp only [← hbb] at hst
    have HBB := Lib.hid hbb
    clear hbb
    have HST := Lib.hid hst
    have hpos : 0 < bb.length := List.length_pos_iff.2 hne
    have hz : ((bb.length : Int) == 0) = false := by simp; omega
    have hn32 : IntKind.i32.wrap (n : Int) = (n : Int) := IntWalk.i32_in _ (by omega)
    have hn64 : IntKind.i64.wrap (n : Int) = (n : Int) := IntWalk.i64_in _ (by omega)
    have H64 := Lib.hid hn64
    have HNX := Lib.hid hnx
    have HWH := Lib.hid hwh
    have HRB := Lib.hid hrb
    clear hst hv hr1 hr2 hv2 hn64 hnx hwh hrb hrl hne
    go_enter Try.func5, Try.ntmps5
    go_wp2_with fail
    refine (Bytes_calls (n : Int) w).mono ?_
    rintro e w1 ⟨v1, rfl, hrow1, hb1⟩
    rw [HRB.out] at hrow1
    clear HRB HBB
    obtain ⟨A1, c1, rfl, _, _, hrd1, _⟩ := hrow1.rd
    have hr0 := Rd.later hrd1 ((Below.refl _ w1).alloc (Nat.le_refl _) (.cells #[] 5))
    have hnew := Row.new w1 #[] w1.heap.size 5 1 0 (Nat.le_refl _) (by simp [maxLen]) (by simp)
    clear hrow1
    go_wp2_with (first
      | (at_builtin; refine wpList_append_row _ rfl _ _ 22 rfl w1.heap.size 5 1 1 _ Try.underlying22 Try.info_u8 rfl (by decide) (.slice (some ⟨w1.heap.size, 0, none⟩) 0 0) 0 [] rfl hnew A1 _ _ (bb.map byt) rfl (by simp) hr0 (by simp [Value.oneCell']) (by omega) (by simp only [maxLen]; omega) (by simp) ?_; intro A2 c2 w2 hrow2 hg2 hb2; have B2 : Below w1.heap.size w1 w2 := app_below (Below.refl _ _) (Nat.le_refl _) hg2 (fun k e => by simp [Value.ownBlock] at e; omega); simp only [Nat.zero_add, List.nil_append] at hrow2)
      | (at_builtin; refine wpList_append_row _ rfl _ _ 22 rfl w1.heap.size 5 1 1 _ Try.underlying22 Try.info_u8 rfl (by decide) (.slice A2 bb.length c2) bb.length (bb.map byt) rfl hrow2 A _ _ (l.map byt) rfl (by simp) (HR.out.later (hb1.trans (B2.mono hb1.size))) (by simp [Value.oneCell']) (by omega) (by simp only [maxLen]; omega) B2.size ?_; intro A3 c3 w3 hrow3 hg3 hb3))
    have B3 : Below w1.heap.size w1 w3 := B2.grown hg3 B2.size fun k e => (hrow2.lt _ e).1
    have BB3 := hb1.trans (B3.mono hb1.size)
    obtain ⟨A3', c3', e, hn3, hm3, hrd3, _⟩ := hrow3.rd
    cases e
    obtain ⟨lm, hlmq⟩ : ∃ x : Bs, x = bb ++ l := ⟨_, rfl⟩
    have hlen4 : bb.length + l.length = lm.length := by rw [hlmq]; simp
    have hrd4 : RdB w3 A3 lm := by unfold RdB; rw [hlmq]; simpa using hrd3
    have hnx4 := HNX.out
    rw [← hlmq] at hnx4
    simp only [hlen4]
    rw [hlen4] at hn3
    clear hlmq hlen4 hrow2 hrow3 hnew hr0 hrd3
    refine (Next_calls A3 c3 lm w3 hrd4 hn3 hm3).mono ?_
    rintro e w4 ⟨rfl, hb4⟩
    rw [hnx4]
    clear hnx4
    have B4 := B3.trans (hb4.mono B3.size)
    go_wp2_with fail
    refine (alive_calls w4).mono ?_
    rintro e w5 ⟨rfl, hb5⟩
    have B5 := B4.trans (hb5.mono B4.size)
    have hw64 := H64.out
    go_wp2_with fail
    refine (Whole_calls A1 c1 bb w5 (Rd.later hrd1 B5) (by omega)).mono ?_
    rintro e w5' ⟨rfl, rfl⟩
    rw [HWH.out]
    have hk1 := row_str w5 A1 bb c1 (Rd.later hrd1 B5)
    have hk2 := HST.out w5
    go_wp2
    go_ret
    exact ⟨by simp, (hb1.trans (B5.mono hb1.size)).alloc (by have := hb1.size; have := B5.size; omega) _⟩
end Go.Proofs.Ytphfopbklebeoaa
