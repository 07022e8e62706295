/-
  Plain facts for the bitmap's laws: numbers of 16 bits, each a bit of one number. No program here.
-/
import Derived.Test.YtiekoidlibhoeaaDoorStripPure2
import Derived.Test.YtiekoidlibhoeaaDoorBitPure2
namespace Go.Proofs.YtiekoidlibhoeaaDoor
set_option linter.unusedVariables false
set_option linter.unusedSimpArgs false

/-! ### a range filled, or wiped, up to k -/
def stepC (B : Nat) (s : Bool) (f k : Nat) : Nat × Nat := if s then (fillN B f k, k - f - segN B f k) else (wipeN B f k, segN B f k)
theorem stepC_start (B : Nat) (s : Bool) (f k : Nat) (h : k ≤ f) : stepC B s f k = (B, 0) := by
  unfold stepC
  rw [fill_none B f k h, wipe_none B f k h, seg_none B f k h, show k - f - 0 = 0 by omega]
  split <;> rfl
theorem stepC_tb (B : Nat) (s : Bool) (f k j : Nat) : (stepC B s f k).1.testBit j = if f ≤ j ∧ j < k then s else B.testBit j := by
  cases s
  · show (wipeN B f k).testBit j = _
    rw [tb_wipe]; by_cases h : f ≤ j ∧ j < k <;> simp [h]
  · show (fillN B f k).testBit j = _
    rw [tb_fill]; by_cases h : f ≤ j ∧ j < k <;> simp [h]
theorem stepC_at (B : Nat) (s : Bool) (f k : Nat) : (stepC B s f k).1.testBit k = B.testBit k := by
  rw [stepC_tb, if_neg (by omega)]
theorem stepC_le (B : Nat) (s : Bool) (f k : Nat) : (stepC B s f k).2 ≤ k - f := by
  have := seg_le B f k
  cases s
  · exact this
  · show k - f - segN B f k ≤ k - f
    omega
theorem stepC_cnt (B : Nat) (s : Bool) (f k : Nat) (h : f ≤ k) : (stepC B s f (k + 1)).2 = (stepC B s f k).2 + if B.testBit k = s then 0 else 1 := by
  have hs := seg_add B f k (k + 1) h (by omega)
  have hl := seg_le B f k
  rw [seg_one] at hs
  cases s
  · show segN B f (k + 1) = segN B f k + _
    cases hb : B.testBit k <;> rw [hb] at hs <;> simp at hs ⊢ <;> omega
  · show k + 1 - f - segN B f (k + 1) = k - f - segN B f k + _
    cases hb : B.testBit k <;> rw [hb] at hs <;> simp at hs ⊢ <;> omega
theorem stepC_new (B : Nat) (s : Bool) (f k j : Nat) (h : f ≤ k) : (stepC B s f (k + 1)).1.testBit j = if j = k then s else (stepC B s f k).1.testBit j := by
  rw [stepC_tb, stepC_tb]
  by_cases hj : j = k
  · rw [if_pos (by omega), if_pos hj]
  · rw [if_neg hj]
    by_cases h2 : f ≤ j ∧ j < k
    · rw [if_pos (by omega), if_pos h2]
    · rw [if_neg (by omega), if_neg h2]
theorem stepC_lt {B D : Nat} (hB : B < 2 ^ D) (s : Bool) (f k : Nat) (hk : k ≤ D) : (stepC B s f k).1 < 2 ^ D := by
  cases s
  · exact wipe_lt hB
  · exact fill_lt hB hk

/-! ### a span of each so many -/
def stepsL (a b s : Nat) : List Nat := if h : a ≤ b ∧ 0 < s then a :: stepsL (a + s) b s else []
termination_by b + 1 - a
theorem stepsL_none (a b s : Nat) (h : b < a) : stepsL a b s = [] := by rw [stepsL, dif_neg (by omega)]
theorem stepsL_cons (a b s : Nat) (h : a ≤ b) (hs : 0 < s) : stepsL a b s = a :: stepsL (a + s) b s := by rw [stepsL, dif_pos ⟨h, hs⟩]
theorem stepsL_mem (b s : Nat) : ∀ d a, b + 1 - a ≤ d → ∀ x, x ∈ stepsL a b s → a ≤ x ∧ x ≤ b := by
  intro d
  induction d with
  | zero => intro a h x hx; rw [stepsL_none a b s (by omega)] at hx; cases hx
  | succ d ih =>
    intro a h x hx
    by_cases hab : a ≤ b ∧ 0 < s
    · rw [stepsL_cons a b s hab.1 hab.2] at hx
      rcases List.mem_cons.1 hx with rfl | hx
      · omega
      · have := ih (a + s) (by omega) x hx; omega
    · rw [stepsL, dif_neg hab] at hx; cases hx
theorem stepsL_len (b s : Nat) : ∀ d a, b + 1 - a ≤ d → (stepsL a b s).length ≤ d := by
  intro d
  induction d with
  | zero => intro a h; rw [stepsL_none a b s (by omega)]; simp
  | succ d ih =>
    intro a h
    by_cases hab : a ≤ b ∧ 0 < s
    · rw [stepsL_cons a b s hab.1 hab.2]
      have := ih (a + s) (by omega)
      simp; omega
    · rw [stepsL, dif_neg hab]; simp
def oneF (s : Nat × Nat) (v : Nat) : Nat × Nat := ((stepC s.1 true v (v + 1)).1, s.2 + (stepC s.1 true v (v + 1)).2)
theorem one_bit (B : Nat) (s : Bool) (v : Nat) : (stepC B s v (v + 1)).2 = if B.testBit v = s then 0 else 1 := by
  rw [stepC_cnt B s v v (Nat.le_refl _), stepC_start B s v v (Nat.le_refl _)]; simp
theorem oneF_le (l : List Nat) : ∀ s : Nat × Nat, (l.foldl oneF s).2 ≤ s.2 + l.length := by
  induction l with
  | nil => intro s; simp
  | cons v r ih =>
    intro s
    have := ih (oneF s v)
    have h1 : (oneF s v).2 ≤ s.2 + 1 := by
      show s.2 + (stepC s.1 true v (v + 1)).2 ≤ s.2 + 1
      rw [one_bit]; split <;> omega
    simp only [List.foldl_cons, List.length_cons]
    omega
theorem oneF_lt {D : Nat} (l : List Nat) (hl : ∀ v, v ∈ l → v < D) : ∀ s : Nat × Nat, s.1 < 2 ^ D → (l.foldl oneF s).1 < 2 ^ D := by
  induction l with
  | nil => intro s h; exact h
  | cons v r ih =>
    intro s h
    have hv := hl v List.mem_cons_self
    exact ih (fun x hx => hl x (List.mem_cons_of_mem _ hx)) (oneF s v) (stepC_lt h true v (v + 1) hv)

/-- An act on a set: what it is then, and how many were changed. -/
def doB (B d a b st : Nat) : Nat × Nat :=
  if d % 5 = 0 then stepC B true a (a + 1) else if d % 5 = 1 then stepC B false a (a + 1) else if d % 5 = 2 then stepC B true a (b + 1) else if d % 5 = 3 then stepC B false a (b + 1)
  else (stepsL a b (2 + st % 9)).foldl oneF (B, 0)
theorem doB_lt {B d a b st D : Nat} (hB : B < 2 ^ D) (ha : a < D) (hb : b < D) : (doB B d a b st).1 < 2 ^ D := by
  unfold doB
  split
  · exact stepC_lt hB _ _ _ (by omega)
  · split
    · exact stepC_lt hB _ _ _ (by omega)
    · split
      · exact stepC_lt hB _ _ _ (by omega)
      · split
        · exact stepC_lt hB _ _ _ (by omega)
        · exact oneF_lt _ (fun v hv => by have := stepsL_mem b (2 + st % 9) _ a (Nat.le_refl _) v hv; omega) _ hB

/-! ### runs -/
/-- The bits that begin a run. -/
def runsN (B : Nat) : Nat := B ^^^ (B &&& 2 * B)
theorem tb_double (B j : Nat) : (2 * B).testBit j = (decide (0 < j) && B.testBit (j - 1)) := by
  cases j with
  | zero => simp [Nat.testBit]
  | succ j =>
    rw [show 2 * B = B * 2 ^ 1 by omega]
    rw [Nat.testBit_mul_two_pow]
    simp
theorem tb_runs (B j : Nat) : (runsN B).testBit j = (B.testBit j && !(decide (0 < j) && B.testBit (j - 1))) := by
  unfold runsN
  rw [Nat.testBit_xor, Nat.testBit_and, tb_double]
  cases B.testBit j <;> simp
/-- The bits of word k that begin a run. -/
theorem runs_word (B k : Nat) (u : Nat) (hu : ∀ j, j < 64 → u.testBit j = ((wordN B k).testBit j && !(if j = 0 then (decide (0 < k) && (wordN B (k - 1)).testBit 63) else (wordN B k).testBit (j - 1)))) (hlt : u < 18446744073709551616) :
    u = wordN (runsN B) k := by
  apply Nat.eq_of_testBit_eq
  intro j
  rw [tb_wordN, tb_runs]
  by_cases hj : j < 64
  · rw [hu j hj, decide_eq_true hj, Bool.true_and]
    simp only [tb_wordN]
    rw [decide_eq_true hj, Bool.true_and]
    congr 2
    by_cases h0 : j = 0
    · subst h0
      rw [if_pos rfl]
      by_cases hk : 0 < k
      · rw [decide_eq_true hk, decide_eq_true (show 63 < 64 by omega), decide_eq_true (show 0 < 64 * k + 0 by omega), Bool.true_and, Bool.true_and, Bool.true_and]
        congr 1; omega
      · have : k = 0 := by omega
        subst this; simp
    · rw [if_neg h0, decide_eq_true (show j - 1 < 64 by omega), decide_eq_true (show 0 < 64 * k + j by omega), Bool.true_and, Bool.true_and]
      congr 1; omega
  · rw [decide_eq_false hj, Bool.false_and]
    exact Nat.testBit_lt_two_pow (Nat.lt_of_lt_of_le hlt (by rw [show (18446744073709551616 : Nat) = 2 ^ 64 by decide]; exact Nat.pow_le_pow_right (by omega) (by omega)))
theorem word_seg (B k : Nat) : cntN (wordN B k) = segN B (64 * k) (64 * (k + 1)) := by
  have := part_cnt B k (64 * k) (64 * (k + 1)) (Nat.le_refl _) (Nat.le_refl _) (by omega)
  rw [← this]
  congr 1
  apply Nat.eq_of_testBit_eq
  intro j
  rw [Nat.testBit_and, tb_mask _ _ (by omega)]
  by_cases hj : j < 64
  · rw [decide_eq_true (show 64 * k - 64 * k ≤ j ∧ j < 64 * (k + 1) - 64 * k by omega), Bool.and_true]
  · rw [tb_wordN, decide_eq_false hj]; simp

/-! ### two sets joined -/
def joinN (op : Nat) (A B : Nat) : Nat := if op = 0 then A ||| B else if op = 1 then A &&& B else if op = 2 then A ^^^ (A &&& B) else A ^^^ B
def joinT (op : Nat) (a b : Bool) : Bool := if op = 0 then a || b else if op = 1 then a && b else if op = 2 then a && !b else a != b
theorem tb_join (op A B j : Nat) : (joinN op A B).testBit j = joinT op (A.testBit j) (B.testBit j) := by
  unfold joinN joinT
  split
  · exact Nat.testBit_or ..
  · split
    · exact Nat.testBit_and ..
    · split
      · rw [Nat.testBit_xor, Nat.testBit_and]; cases A.testBit j <;> cases B.testBit j <;> rfl
      · rw [Nat.testBit_xor]
theorem join_lt {op A B D : Nat} (hA : A < 2 ^ D) (hB : B < 2 ^ D) : joinN op A B < 2 ^ D :=
  lt_of_tb (fun j hj => by rw [tb_join, big_tb hA hj, big_tb hB hj]; unfold joinT; split <;> (try split) <;> (try split) <;> rfl)
theorem join_word (op A B k : Nat) : wordN (joinN op A B) k = joinN op (wordN A k) (wordN B k) := by
  apply Nat.eq_of_testBit_eq
  intro j
  rw [tb_wordN, tb_join, tb_join, tb_wordN, tb_wordN]
  by_cases hj : j < 64
  · simp [hj]
  · simp only [decide_eq_false hj, Bool.false_and]
    unfold joinT; split <;> (try split) <;> (try split) <;> rfl

/-! ### the sequence of numbers up to some place -/
theorem next_step (n B i : Nat) (h : B.testBit i = false) : nextL (listB n B) (i : Int) = nextL (listB n B) ((i + 1 : Nat) : Int) := by
  rw [nextL_head, nextL_head]
  congr 1
  apply List.filter_congr
  intro x hx
  rw [mem_listB] at hx
  have : x ≠ (i : Int) := fun e => by subst e; have := hx.2.2; simp [h] at this
  apply decide_eq_decide.2
  omega
theorem next_here (n B i : Nat) (hi : i < 64 * n) (h : B.testBit i = true) : nextL (listB n B) (i : Int) = i :=
  next_self (listB_sorted n B) ((mem_listB n B i).2 ⟨by omega, by omega, by simpa using h⟩)
theorem next_over (n B i : Nat) (hi : 64 * n ≤ i) : nextL (listB n B) (i : Int) = -1 :=
  next_none (fun y hy => by have := (mem_listB n B y).1 hy; omega)
theorem prev_step (n B : Nat) (i : Nat) (h : B.testBit i = false) : prevL (listB n B) (i : Int) = prevL (listB n B) ((i : Int) - 1) := by
  rw [prevL_last, prevL_last]
  congr 1
  apply List.filter_congr
  intro x hx
  rw [mem_listB] at hx
  have : x ≠ (i : Int) := fun e => by subst e; have := hx.2.2; simp [h] at this
  apply decide_eq_decide.2
  omega
theorem prev_here (n B i : Nat) (hi : i < 64 * n) (h : B.testBit i = true) : prevL (listB n B) (i : Int) = i :=
  prev_self (listB_sorted n B) ((mem_listB n B i).2 ⟨by omega, by omega, by simpa using h⟩)
theorem prev_under (n B : Nat) (i : Int) (hi : i < 0) : prevL (listB n B) i = -1 := by
  rw [prevL_last]
  have : (listB n B).filter (fun x => decide (x ≤ i)) = [] := List.filter_eq_nil_iff.2 (fun x hx => by have := (mem_listB n B x).1 hx; simp; omega)
  rw [this]; rfl
theorem next_bd (n B : Nat) (i : Int) : nextL (listB n B) i = -1 ∨ (0 ≤ nextL (listB n B) i ∧ nextL (listB n B) i < 64 * n) := by
  rw [nextL_head]
  cases hl : (listB n B).filter (fun x => decide (i ≤ x)) with
  | nil => exact .inl rfl
  | cons x r =>
    have hx : x ∈ (listB n B).filter (fun x => decide (i ≤ x)) := by rw [hl]; exact List.mem_cons_self
    have := (mem_listB n B x).1 (List.mem_filter.1 hx).1
    right; simp only [List.headD_cons]; omega
theorem last_mem' (l : List Int) : l = [] ∨ l.getLastD (-1) ∈ l := by
  cases l with
  | nil => exact .inl rfl
  | cons x r => right; simp [List.getLastD_eq_getLast?, List.getLast?_eq_some_getLast]
theorem prev_b16 (n B : Nat) (i : Int) : prevL (listB n B) i = -1 ∨ (0 ≤ prevL (listB n B) i ∧ prevL (listB n B) i < 64 * n) := by
  rw [prevL_last]
  rcases last_mem' ((listB n B).filter (fun x => decide (x ≤ i))) with h | h
  · rw [h]; exact .inl rfl
  · have := (mem_listB n B _).1 (List.mem_filter.1 h).1
    right; omega
theorem sel_bd (n B : Nat) (k : Int) : selectL (listB n B) k = -1 ∨ (0 ≤ selectL (listB n B) k ∧ selectL (listB n B) k < 64 * n) := by
  unfold selectL
  split
  · exact .inl rfl
  · by_cases h : k.toNat < (listB n B).length
    · rw [List.getD_eq_getElem?_getD, List.getElem?_eq_getElem h]
      have := (mem_listB n B _).1 (List.getElem_mem h)
      right; simp only [Option.getD_some]; omega
    · rw [List.getD_eq_getElem?_getD, List.getElem?_eq_none (by omega)]; exact .inl rfl
theorem sel_at16 (n B i : Nat) (hi : i < 64 * n) (h : B.testBit i = true) : selectL (listB n B) (segN B 0 i : Nat) = i := by
  have hm : (i : Int) ∈ listB n B := (mem_listB n B i).2 ⟨by omega, by omega, by simpa using h⟩
  have hr := rank_listB n B i (by omega)
  have hr2 := rank_listB n B (i + 1) (by omega)
  have hs := seg_add B 0 i (i + 1) (by omega) (by omega)
  rw [seg_one, h] at hs
  have := (select_of_rank (listB_sorted n B) (a := (i : Int)) (by
    rw [hr, show ((i : Int) + 1) = ((i + 1 : Nat) : Int) by omega, hr2]; simp at hs; omega)).1
  rw [hr] at this
  exact this
theorem sel_over (n B : Nat) (k : Int) (h0 : 0 ≤ k) (h : ((segN B 0 (64 * n) : Nat) : Int) ≤ k) : selectL (listB n B) k = -1 := by
  unfold selectL
  rw [if_neg (by omega), List.getD_eq_getElem?_getD, List.getElem?_eq_none (by rw [len_listB]; omega)]; rfl
theorem list_all (B D : Nat) (h : D = 64 * 1024) : listB 1024 B = bitsFrom B D 0 := by rw [h]; rfl
theorem list_snoc (B k : Nat) : bitsFrom B (k + 1) 0 = bitsFrom B k 0 ++ (if B.testBit k then [(k : Int)] else []) := listTo_snoc B k
theorem list_bd (n B : Nat) : ∀ x, x ∈ listB n B → 0 ≤ x ∧ x < 64 * n := fun x hx => by have := (mem_listB n B x).1 hx; omega
theorem seg_snoc (B k : Nat) : segN B 0 (k + 1) = segN B 0 k + if B.testBit k then 1 else 0 := by
  rw [← seg_one, seg_add B 0 k (k + 1) (by omega) (by omega)]

end Go.Proofs.YtiekoidlibhoeaaDoor
