import Derived.Test.YtfgjhfmgacopoaaDoorWf
import Derived.Test.YtfgjhfmgacopoaaDoorSr3
namespace Go.Proofs.YtfgjhfmgacopoaaDoor
open Go.RowKit Go.Shelf
attribute [local go_sem] Oper.semAt_some
def sgF : Nat → Bs → List Bs
  | 0, _ => []
  | n + 1, l => if l = [] then [] else l.take (dec l).2 :: sgF n (l.drop (dec l).2)
theorem sgF_eq : ∀ (n : Nat) (l : Bs), l.length ≤ n → sgF n l = sg l := by
  intro n
  induction n with
  | zero => intro l h; have : l = [] := List.eq_nil_of_length_eq_zero (by omega); subst this; rw [sg_nil]; rfl
  | succ n ih =>
    intro l h
    by_cases h0 : l = []
    · subst h0; rw [sg_nil]; rfl
    · have := dec_pos l
      rw [sg_cons h0, sgF, if_neg h0, ih _ (by simp; omega)]
theorem cuts_by {l : Bs} {cs : List Bs} (h : cutP (sgF l.length l) = cs) : cuts l = cs := by
  unfold cuts; rw [← sgF_eq _ l (Nat.le_refl _)]; exact h
def tx1 : Bs := [0x65, 0xcc, 0x81, 0x78, 0xe4, 0xb8, 0xad]
def tx2 : Bs := [0x65, 0xcc, 0x81, 0x78]
def tx3 : Bs := [0x61, 0x62, 0x63]
set_option maxRecDepth 100000 in
theorem cuts1 : cuts tx1 = [[0x65, 0xcc, 0x81], [0x78], [0xe4, 0xb8, 0xad]] := cuts_by (by decide)
set_option maxRecDepth 100000 in
theorem cuts2 : cuts tx2 = [[0x65, 0xcc, 0x81], [0x78]] := cuts_by (by decide)
set_option maxRecDepth 100000 in
theorem cuts3 : cuts tx3 = [[0x61], [0x62], [0x63]] := cuts_by (by decide)
set_option maxRecDepth 100000 in
theorem wid3 : wid [0xe4, 0xb8, 0xad] = 2 := by decide
set_option maxRecDepth 100000 in
theorem sum1 : wsum (cuts tx1) = 4 := by rw [cuts1]; decide
set_option maxRecDepth 100000 in
theorem show1 : shown [0xcc, 0x81] = [0xef, 0xbf, 0xbd] := by decide
theorem of97 : wof 97 = 1 := by decide
theorem ctl7 : ctl 7 = true := by decide
end Go.Proofs.YtfgjhfmgacopoaaDoor
