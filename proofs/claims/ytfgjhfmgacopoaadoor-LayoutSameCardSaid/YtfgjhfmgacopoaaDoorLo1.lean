import Derived.Test.YtfgjhfmgacopoaaDoorTt1
import Derived.Laws.CopyOwn
namespace Go.Proofs.YtfgjhfmgacopoaaDoor
set_option linter.unusedVariables false
set_option linter.unusedSimpArgs false
/-! Chapter 18 in plain Lean: cells, rows, what is drawn. -/
structure CellT where
  s : Bs
  wd : Int
  dim : Bool
  deriving DecidableEq
abbrev RowT := List CellT
def blankC : CellT := ⟨[32], 1, false⟩
def dotsC : CellT := ⟨[0xe2, 0x80, 0xa6], 1, true⟩
def blanks (n : Nat) : RowT := List.replicate n blankC
def cellsP (cols : Nat) (c : Bs) (dim : Bool) : RowT :=
  if wid c = 1 then [⟨shown c, 1, dim⟩] else if cols = 1 then [⟨wrongB, 1, dim⟩] else [⟨shown c, 2, dim⟩, ⟨[], 0, dim⟩]
def padP (cols : Nat) (A : RowT) : RowT := A ++ blanks (cols - A.length)
structure ShT where
  done : List RowT
  cur : RowT
def ShT.rows (cols : Nat) (S : ShT) : List RowT := S.done ++ [padP cols S.cur]
def fitP (cols : Nat) (S : ShT) (n : Nat) : ShT := if cols < S.cur.length + n then ⟨S.rows cols, []⟩ else S
def putP (cols : Nat) (S : ShT) (c : Bs) : ShT := ⟨(fitP cols S (cellsP cols c false).length).done, (fitP cols S (cellsP cols c false).length).cur ++ cellsP cols c false⟩
def placeP (cols : Nat) (S : ShT) (c : Bs) : Nat × Nat := ((fitP cols S (cellsP cols c false).length).done.length, (fitP cols S (cellsP cols c false).length).cur.length)
def foldS (cols : Nat) (S : ShT) (l : List Bs) : ShT := l.foldl (putP cols) S
def curF (cols a : Nat) : ShT → Nat → List Bs → Nat × Nat → Nat × Nat
  | _, _, [], p => p
  | S, k, c :: cs, p => curF cols a (putP cols S c) (k + c.length) cs (if k = a then placeP cols S c else p)
def plainL (x : Bs) : Bs := if (pl x).length ≤ 1200 then pl x else (pl x).take (back (pl x) 1200)
def ghF (cols room : Nat) : RowT → List Bs → RowT
  | G, [] => G
  | G, c :: cs => if room < G.length + (cellsP cols c true).length then G else ghF cols room (G ++ cellsP cols c true) cs
def overP (room : Nat) (g : Bs) : Bool := decide ((room : Int) < wsum (cuts g))
def ghostP (cols col : Nat) (g : Bs) : RowT :=
  if overP (cols - col) g then ghF cols (cols - col - 1) [] (cuts g) ++ [dotsC] else ghF cols (cols - col) [] (cuts g)
structure ViewT where
  rows : Int
  cols : Int
  left : Bs
  right : Bs
  ghost : Bs
  text : Bs
  at_ : Int
def clampN (n hi : Int) : Nat := (min (max n 1) hi).toNat
def ViewT.c (v : ViewT) : Nat := clampN v.cols 120
def ViewT.n (v : ViewT) : Nat := clampN v.rows 60
def ViewT.tx (v : ViewT) : Bs := plainL v.text
def ViewT.at' (v : ViewT) : Nat := back v.tx v.at_
def ViewT.s1 (v : ViewT) : ShT := foldS v.c ⟨[], []⟩ (cuts (plainL v.left))
def ViewT.s2 (v : ViewT) : ShT := foldS v.c v.s1 (cuts v.tx)
def ViewT.atEnd (v : ViewT) : Bool := decide (v.at' = v.tx.length)
def ViewT.s3 (v : ViewT) : ShT := if v.atEnd then fitP v.c v.s2 1 else v.s2
def ViewT.gh (v : ViewT) : RowT := if v.atEnd then ghostP v.c v.s3.cur.length (plainL v.ghost) else []
def ViewT.cursor (v : ViewT) : Nat × Nat := if v.atEnd then (v.s3.done.length, v.s3.cur.length) else curF v.c v.at' v.s1 0 (cuts v.tx) (0, 0)
def ViewT.A (v : ViewT) : RowT := v.s3.cur ++ v.gh
def ViewT.first (v : ViewT) : Nat := if v.s3.done = [] then v.A.length else v.c
def ViewT.pr (v : ViewT) : Bs := plainL v.right
def ViewT.isR (v : ViewT) : Bool := decide (v.pr ≠ []) && decide ((v.first : Int) + 1 + wsum (cuts v.pr) ≤ v.c)
def rcells (cols : Nat) (l : List Bs) : RowT := l.flatMap fun c => cellsP cols c false
def rightP (cols : Nat) (A R : RowT) : RowT := A ++ blanks (cols - A.length - R.length) ++ R
def ViewT.drawn (v : ViewT) : List RowT := if v.isR then [rightP v.c v.A (rcells v.c (cuts v.pr))] else v.s3.done ++ [padP v.c v.A]
def ViewT.top (v : ViewT) : Nat := v.cursor.1 + 1 - v.n
structure FrameT where
  rows : List RowT
  row : Nat
  col : Nat
def ViewT.of (v : ViewT) : FrameT := ⟨(v.drawn.drop v.top).take v.n, v.cursor.1 - v.top, v.cursor.2⟩
/-! What stands. -/
theorem clampN_range {n hi : Int} (h : 1 ≤ hi) : 1 ≤ clampN n hi ∧ (clampN n hi : Int) ≤ hi := by
  unfold clampN; omega
theorem ViewT.c_range (v : ViewT) : 1 ≤ v.c ∧ v.c ≤ 120 := by have := clampN_range (n := v.cols) (hi := 120) (by omega); unfold ViewT.c; omega
theorem ViewT.n_range (v : ViewT) : 1 ≤ v.n ∧ v.n ≤ 60 := by have := clampN_range (n := v.rows) (hi := 60) (by omega); unfold ViewT.n; omega
theorem wid_one {c : Bs} (h : c ≠ []) : wid c = 1 ∨ wid c = 2 := by
  unfold wid; rw [if_neg h]
  rcases wof_cases ((dec c).1 : Int) with e | e | e <;> rw [e] <;> decide
theorem cells_len (cols : Nat) (c : Bs) (d : Bool) (hc : 1 ≤ cols) : 1 ≤ (cellsP cols c d).length ∧ (cellsP cols c d).length ≤ cols ∧ (cellsP cols c d).length ≤ 2 := by
  unfold cellsP
  by_cases h1 : wid c = 1
  · rw [if_pos h1]; exact ⟨Nat.le_refl _, hc, by simp⟩
  · rw [if_neg h1]
    by_cases h2 : cols = 1
    · rw [if_pos h2]; exact ⟨Nat.le_refl _, hc, by simp⟩
    · rw [if_neg h2]; exact ⟨by simp, show 2 ≤ cols by omega, by simp⟩
theorem cells_wid {cols : Nat} {c : Bs} (d : Bool) (h : c ≠ []) (hc : cols ≠ 1) : ((cellsP cols c d).length : Int) = wid c := by
  unfold cellsP
  rcases wid_one h with e | e
  · rw [if_pos e, e]; rfl
  · rw [if_neg (by rw [e]; decide), if_neg hc, e]; rfl
theorem cells_le {cols : Nat} {c : Bs} (d : Bool) (h : c ≠ []) : ((cellsP cols c d).length : Int) ≤ wid c := by
  unfold cellsP
  rcases wid_one h with e | e
  · rw [if_pos e, e]; exact Int.le_refl _
  · rw [if_neg (by rw [e]; decide), e]
    by_cases h2 : cols = 1
    · rw [if_pos h2]; simp
    · rw [if_neg h2]; simp
theorem fit_le (cols : Nat) (S : ShT) (n : Nat) (hn : n ≤ cols) : (fitP cols S n).cur.length + n ≤ cols := by
  unfold fitP
  by_cases h : cols < S.cur.length + n
  · rw [if_pos h]; simpa using hn
  · rw [if_neg h]; omega
theorem put_le (cols : Nat) (S : ShT) (c : Bs) (hc : 1 ≤ cols) : (putP cols S c).cur.length ≤ cols := by
  have := fit_le cols S (cellsP cols c false).length (cells_len cols c false hc).2.1
  unfold putP; simp only [List.length_append]; exact this
theorem fold_le (cols : Nat) (hc : 1 ≤ cols) : (l : List Bs) → (S : ShT) → S.cur.length ≤ cols → (foldS cols S l).cur.length ≤ cols
  | [], S, h => h
  | c :: l, S, h => fold_le cols hc l (putP cols S c) (put_le cols S c hc)
theorem ghF_le (cols room : Nat) : (l : List Bs) → (G : RowT) → G.length ≤ room → (ghF cols room G l).length ≤ room
  | [], G, h => h
  | c :: l, G, h => by
    unfold ghF
    by_cases hr : room < G.length + (cellsP cols c true).length
    · rw [if_pos hr]; exact h
    · rw [if_neg hr]; exact ghF_le cols room l _ (by rw [List.length_append]; omega)
theorem ghost_le (cols col : Nat) (g : Bs) (h : col < cols) : (ghostP cols col g).length ≤ cols - col := by
  unfold ghostP
  by_cases ho : overP (cols - col) g = true
  · rw [if_pos ho, List.length_append]
    have := ghF_le cols (cols - col - 1) (cuts g) [] (by simp)
    simp only [List.length_singleton]; omega
  · rw [if_neg ho]; exact ghF_le cols (cols - col) (cuts g) [] (by simp)
theorem pad_len {cols : Nat} {A : RowT} (h : A.length ≤ cols) : (padP cols A).length = cols := by
  unfold padP blanks; rw [List.length_append, List.length_replicate]; omega
theorem ViewT.s2_le (v : ViewT) : v.s2.cur.length ≤ v.c := fold_le _ v.c_range.1 _ _ (fold_le _ v.c_range.1 _ _ (Nat.zero_le _))
theorem ViewT.s3_lt (v : ViewT) (h : v.atEnd = true) : v.s3.cur.length < v.c := by
  unfold ViewT.s3; rw [if_pos h]
  have := fit_le v.c v.s2 1 v.c_range.1
  omega
theorem ViewT.s3_le (v : ViewT) : v.s3.cur.length ≤ v.c := by
  by_cases h : v.atEnd = true
  · exact Nat.le_of_lt (v.s3_lt h)
  · unfold ViewT.s3; rw [if_neg h]; exact v.s2_le
theorem ViewT.A_le (v : ViewT) : v.A.length ≤ v.c := by
  unfold ViewT.A; rw [List.length_append]
  by_cases h : v.atEnd = true
  · have := ghost_le v.c v.s3.cur.length (plainL v.ghost) (v.s3_lt h)
    have := v.s3_lt h
    unfold ViewT.gh; rw [if_pos h]; omega
  · unfold ViewT.gh; rw [if_neg h]; simpa using v.s3_le
/-- The last row's cells laid over its blanks. -/
theorem pad_over {cols : Nat} {A cs : RowT} (h : A.length + cs.length ≤ cols) : splice (padP cols A) A.length cs = padP cols (A ++ cs) := by
  unfold splice padP blanks
  rw [List.take_left', List.drop_append, List.drop_eq_nil_of_le (by omega), List.nil_append, List.drop_replicate, List.length_append, List.append_assoc]
  · congr 3; omega
  · rfl
theorem rcells_wid {cols : Nat} : (l : List Bs) → (∀ c ∈ l, c ≠ []) → cols ≠ 1 → ((rcells cols l).length : Int) = wsum l
  | [], _, _ => rfl
  | c :: l, h, hc => by
    have ih := rcells_wid l (fun d hd => h d (List.mem_cons_of_mem _ hd)) hc
    have e := cells_wid (cols := cols) (c := c) false (h c (List.mem_cons_self ..)) hc
    unfold rcells at ih ⊢
    rw [List.flatMap_cons, List.length_append]
    simp only [wsum, List.map_cons, List.sum_cons] at ih ⊢
    omega
theorem wsum_pos {l : List Bs} (h : ∀ c ∈ l, c ≠ []) (h0 : l ≠ []) : 1 ≤ wsum l := by
  cases l with
  | nil => exact absurd rfl h0
  | cons c l =>
    have := wsum_le l
    have := wid_one (h c (List.mem_cons_self ..))
    simp only [wsum, List.map_cons, List.sum_cons] at *
    omega
/-- Where the right prompt stands there are two columns, at least, and one row. -/
theorem ViewT.right_is {v : ViewT} (h : v.isR = true) : v.c ≠ 1 ∧ v.s3.done = [] ∧ ((rcells v.c (cuts v.pr)).length : Int) = wsum (cuts v.pr) ∧ v.A.length + 1 + (rcells v.c (cuts v.pr)).length ≤ v.c := by
  unfold ViewT.isR at h
  simp only [Bool.and_eq_true, decide_eq_true_eq] at h
  have hp := wsum_pos (cuts_nz v.pr) (cuts_ne h.1)
  have hc : v.c ≠ 1 := by omega
  have hd : v.s3.done = [] := by
    by_cases hd : v.s3.done = []
    · exact hd
    · have e : v.first = v.c := by unfold ViewT.first; rw [if_neg hd]
      rw [e] at h; omega
  have hr := rcells_wid (cols := v.c) (cuts v.pr) (cuts_nz v.pr) hc
  have e : v.first = v.A.length := by unfold ViewT.first; rw [if_pos hd]
  rw [e] at h
  exact ⟨hc, hd, hr, by omega⟩
end Go.Proofs.YtfgjhfmgacopoaaDoor
