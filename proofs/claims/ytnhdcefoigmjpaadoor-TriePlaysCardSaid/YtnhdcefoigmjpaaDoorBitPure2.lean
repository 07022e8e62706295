/-
  More plain facts on rising lists and words: what the laws on package bit ask. No program here.
-/
import Derived.Test.YtnhdcefoigmjpaaDoorBitPure
namespace Go.Proofs.YtnhdcefoigmjpaaDoor
set_option linter.unusedVariables false
set_option linter.unusedSimpArgs false

theorem low_sel (l : List Int) : l.headD (-1) = selectL l 0 := by cases l <;> simp [selectL]
theorem high_sel (l : List Int) : l.getLastD (-1) = selectL l ((l.length : Int) - 1) := by
  cases l with
  | nil => simp [selectL]
  | cons a r =>
    rw [List.getLastD_eq_getLast?, List.getLast?_eq_getElem?]
    simp only [selectL, List.length_cons]
    rw [if_neg (by omega), show (((r.length + 1 : Nat) : Int) - 1).toNat = r.length + 1 - 1 by omega]
    simp [List.getD]
theorem sel_mem {l : List Int} (hl : l.Pairwise (· < ·)) : ∀ {k : Nat} (h : k < l.length), selectL l (k : Int) ∈ l ∧ rankL l (selectL l (k : Int)) = k := by
  induction l with
  | nil => intro k h; cases h
  | cons x r ih =>
    rw [List.pairwise_cons] at hl
    intro k h
    cases k with
    | zero =>
      have e : selectL (x :: r) ((0 : Nat) : Int) = x := by simp [selectL]
      rw [e]
      exact ⟨List.mem_cons_self, rankL_ge (fun y hy => by rcases List.mem_cons.1 hy with rfl | hy; omega; have := hl.1 y hy; omega)⟩
    | succ k =>
      have e : selectL (x :: r) ((k + 1 : Nat) : Int) = selectL r (k : Int) := by
        simp only [selectL]; rw [if_neg (by omega), if_neg (by omega), Int.toNat_natCast, Int.toNat_natCast, List.getD_cons_succ]
      obtain ⟨h1, h2⟩ := ih hl.2 (k := k) (by simpa using h)
      rw [e]
      refine ⟨List.mem_cons_of_mem _ h1, ?_⟩
      rw [rankL_cons, h2, if_pos (hl.1 _ h1)]; omega
theorem next_is {l : List Int} (hl : l.Pairwise (· < ·)) {n r : Int} (h1 : r ∈ l) (h2 : n ≤ r) (h3 : ∀ y, y ∈ l → n ≤ y → r ≤ y) : nextL l n = r := by
  induction l with
  | nil => cases h1
  | cons x t ih =>
    rw [List.pairwise_cons] at hl
    simp only [nextL]
    by_cases h : n ≤ x
    · rw [if_pos h]
      have := h3 x List.mem_cons_self h
      rcases List.mem_cons.1 h1 with rfl | h1
      · rfl
      · have := hl.1 r h1; omega
    · rw [if_neg h]
      rcases List.mem_cons.1 h1 with rfl | h1
      · exact absurd h2 h
      · exact ih hl.2 h1 (fun y hy => h3 y (List.mem_cons_of_mem _ hy))
theorem next_none {l : List Int} {n : Int} (h : ∀ y, y ∈ l → y < n) : nextL l n = -1 := by
  induction l with
  | nil => rfl
  | cons x t ih =>
    simp only [nextL]
    rw [if_neg (by have := h x List.mem_cons_self; omega)]
    exact ih (fun y hy => h y (List.mem_cons_of_mem _ hy))
theorem prevF_mem {l : List Int} (hl : l.Pairwise (· < ·)) {n : Int} (b : Int) (h1 : n ∈ l) : prevF l n b = n := by
  induction l generalizing b with
  | nil => cases h1
  | cons x t ih =>
    rw [List.pairwise_cons] at hl
    simp only [prevF]
    rcases List.mem_cons.1 h1 with rfl | h1
    · rw [if_pos (Int.le_refl _)]
      have : ∀ (t : List Int) (b : Int), (∀ y, y ∈ t → n < y) → prevF t n b = b := by
        intro t
        induction t with
        | nil => intros; rfl
        | cons y s ih2 =>
          intro b h
          simp only [prevF]
          rw [if_neg (by have := h y List.mem_cons_self; omega)]
          exact ih2 b (fun z hz => h z (List.mem_cons_of_mem _ hz))
      exact this t n hl.1
    · exact ih hl.2 _ h1
theorem next_self {l : List Int} (hl : l.Pairwise (· < ·)) {n : Int} (h1 : n ∈ l) : nextL l n = n := next_is hl h1 (Int.le_refl _) (fun _ _ h => h)
theorem prev_self {l : List Int} (hl : l.Pairwise (· < ·)) {n : Int} (h1 : n ∈ l) : prevL l n = n := prevF_mem hl _ h1

/-- Rising lists with the same elements are one. -/
theorem sorted_ext {l m : List Int} (hl : l.Pairwise (· < ·)) (hm : m.Pairwise (· < ·)) (h : ∀ x, x ∈ l ↔ x ∈ m) : l = m := by
  induction l generalizing m with
  | nil =>
    cases m with
    | nil => rfl
    | cons y s => exact absurd ((h y).2 List.mem_cons_self) (by simp)
  | cons x t ih =>
    cases m with
    | nil => exact absurd ((h x).1 List.mem_cons_self) (by simp)
    | cons y s =>
      rw [List.pairwise_cons] at hl hm
      have e : x = y := by
        have h1 := (h x).1 List.mem_cons_self
        have h2 := (h y).2 List.mem_cons_self
        rcases List.mem_cons.1 h1 with h1 | h1
        · exact h1
        · rcases List.mem_cons.1 h2 with h2 | h2
          · exact h2.symm
          · have := hl.1 y h2; have := hm.1 x h1; omega
      subst e
      congr 1
      apply ih hl.2 hm.2
      intro z
      constructor
      · intro hz
        rcases List.mem_cons.1 ((h z).1 (List.mem_cons_of_mem _ hz)) with rfl | h1
        · have := hl.1 z hz; omega
        · exact h1
      · intro hz
        rcases List.mem_cons.1 ((h z).2 (List.mem_cons_of_mem _ hz)) with rfl | h1
        · have := hm.1 z hz; omega
        · exact h1
theorem dropL_mem (l : List Int) (n x : Int) : x ∈ dropL l n ↔ x ∈ l ∧ x ≠ n := by simp [dropL]
theorem dropL_sorted {l : List Int} (hl : l.Pairwise (· < ·)) (n : Int) : (dropL l n).Pairwise (· < ·) := hl.filter _
theorem addL_mem (l : List Int) (n x : Int) : x ∈ addL l n ↔ x ∈ l ∨ x = n := by
  induction l with
  | nil => simp [addL]
  | cons y r ih =>
    simp only [addL]
    by_cases h : n ≤ y
    · rw [if_pos h, List.mem_cons, dropL_mem]
      constructor
      · rintro (h | ⟨h, _⟩)
        · exact .inr h
        · exact .inl h
      · rintro (h | h)
        · by_cases e : x = n
          · exact .inl e
          · exact .inr ⟨h, e⟩
        · exact .inl h
    · rw [if_neg h, List.mem_cons, ih, List.mem_cons, or_assoc]
theorem addL_sorted {l : List Int} (hl : l.Pairwise (· < ·)) (n : Int) : (addL l n).Pairwise (· < ·) := by
  induction l with
  | nil => simp [addL]
  | cons y r ih =>
    have hl' := List.pairwise_cons.1 hl
    simp only [addL]
    by_cases h : n ≤ y
    · rw [if_pos h, List.pairwise_cons]
      refine ⟨fun z hz => ?_, dropL_sorted hl n⟩
      obtain ⟨h1, h2⟩ := (dropL_mem _ _ _).1 hz
      rcases List.mem_cons.1 h1 with rfl | h1
      · omega
      · have := hl'.1 z h1; omega
    · rw [if_neg h, List.pairwise_cons]
      refine ⟨fun z hz => ?_, ih hl'.2⟩
      rcases (addL_mem _ _ _).1 hz with h1 | h1
      · exact hl'.1 z h1
      · omega

theorem list_set (w : Nat) (i : Int) (h0 : 0 ≤ i) (h1 : i < 64) : listW (setN w i) = addL (listW w) i := by
  refine sorted_ext (listW_sorted _) (addL_sorted (listW_sorted _) _) (fun x => ?_)
  rw [addL_mem, mem_listW, mem_listW]
  unfold setN
  rw [Nat.testBit_or, tb_oneN]
  simp only [Bool.or_eq_true, decide_eq_true_eq]
  constructor
  · rintro ⟨a, b, c | c⟩
    · exact .inl ⟨a, b, c⟩
    · exact .inr (by omega)
  · rintro (⟨a, b, c⟩ | c)
    · exact ⟨a, b, .inl c⟩
    · exact ⟨by omega, by omega, .inr (by omega)⟩
theorem list_clr (w : Nat) (i : Int) : listW (clrN w i) = dropL (listW w) i := by
  unfold clrN dropL
  rw [listW_and]
  apply List.filter_congr
  intro x hx
  obtain ⟨h1, h2, h3⟩ := (mem_listW w x).1 hx
  rw [tb_notN _ (oneN_lt i), tb_oneN]
  by_cases h : x = i
  · rw [decide_eq_false (p := x ≠ i) (by simpa using h), decide_eq_true (p := x.toNat < 64) (by omega), decide_eq_true (by omega)]; rfl
  · rw [decide_eq_true (p := x ≠ i) h, decide_eq_true (p := x.toNat < 64) (by omega), decide_eq_false (by omega)]; rfl
theorem tb_high {w : Nat} (hw : w < 18446744073709551616) {j : Nat} (h : 64 ≤ j) : w.testBit j = false := by
  apply Nat.testBit_lt_two_pow
  have : 2 ^ 64 ≤ 2 ^ j := Nat.pow_le_pow_right (by decide) h
  rw [← U64_pow] at this; omega
theorem clr_set (w : Nat) (hw : w < 18446744073709551616) (i : Int) : clrN (setN w i) i = clrN w i := by
  apply Nat.eq_of_testBit_eq
  intro j
  unfold clrN setN
  rw [Nat.testBit_and, Nat.testBit_or, Nat.testBit_and, tb_notN _ (oneN_lt i), tb_oneN]
  by_cases h : (j : Int) = i ∧ j < 64
  · rw [decide_eq_true h]; simp
  · rw [decide_eq_false h]; simp
theorem set_clr (w : Nat) (hw : w < 18446744073709551616) (i : Int) : setN (clrN w i) i = setN w i := by
  apply Nat.eq_of_testBit_eq
  intro j
  unfold clrN setN
  rw [Nat.testBit_or, Nat.testBit_and, Nat.testBit_or, tb_notN _ (oneN_lt i), tb_oneN]
  by_cases h : (j : Int) = i ∧ j < 64
  · rw [decide_eq_true h]; simp
  · rw [decide_eq_false h]
    by_cases k : j < 64
    · simp [k]
    · rw [tb_high hw (Nat.le_of_not_lt k)]; simp
theorem set_out (w : Nat) (i : Int) (h : ¬ (0 ≤ i ∧ i < 64)) : setN w i = w := by unfold setN oneN; rw [if_neg h]; simp
theorem clr_out (w : Nat) (hw : w < 18446744073709551616) (i : Int) (h : ¬ (0 ≤ i ∧ i < 64)) : clrN w i = w := by
  apply Nat.eq_of_testBit_eq
  intro j
  unfold clrN oneN
  rw [if_neg h, Nat.testBit_and, tb_notN _ (by decide), Nat.zero_testBit]
  by_cases k : j < 64
  · simp [k]
  · rw [tb_high hw (Nat.le_of_not_lt k)]; simp
theorem set_lt (w : Nat) (i : Int) (hw : w < 18446744073709551616) : setN w i < 18446744073709551616 := or_lt _ _ hw (oneN_lt i)
theorem clr_lt (w : Nat) (i : Int) (hw : w < 18446744073709551616) : clrN w i < 18446744073709551616 := and_lt' _ _ hw

/-! ### what a word hasn't -/
theorem mem_rest (w : Nat) (hw : w < 18446744073709551616) (x : Int) : x ∈ listW (notN w) ↔ 0 ≤ x ∧ x < 64 ∧ x ∉ listW w := by
  rw [mem_listW, mem_listW, tb_notN w hw]
  simp only [Bool.and_eq_true, decide_eq_true_eq, Bool.not_eq_true']
  constructor
  · rintro ⟨a, b, c, d⟩
    exact ⟨a, b, fun ⟨_, _, e⟩ => by rw [d] at e; cases e⟩
  · rintro ⟨a, b, c⟩
    refine ⟨a, b, by omega, ?_⟩
    cases h : w.testBit x.toNat with
    | false => rfl
    | true => exact absurd ⟨a, b, h⟩ c
theorem rank_from (w : Nat) (hw : w < 18446744073709551616) (i : Int) : ∀ d s : Nat, s + d ≤ 64 → (rankL (bitsFrom w d s) i : Int) + rankL (bitsFrom (notN w) d s) i = max (min (i - s) d) 0 := by
  intro d
  induction d with
  | zero => intro s _; simp [bitsFrom, rankL]; omega
  | succ d ih =>
    intro s hs
    have ih' := ih (s + 1) (by omega)
    have e : (notN w).testBit s = !w.testBit s := by rw [tb_notN w hw, decide_eq_true (by omega)]; rfl
    simp only [bitsFrom]
    rw [e]
    cases w.testBit s with
    | true =>
      simp only [if_true, Bool.not_true, Bool.false_eq_true, if_false, List.nil_append, List.cons_append]
      rw [rankL_cons]
      by_cases h : (s : Int) < i
      · rw [if_pos h]; omega
      · rw [if_neg h]; omega
    | false =>
      simp only [if_true, Bool.not_false, Bool.false_eq_true, if_false, List.nil_append, List.cons_append]
      rw [rankL_cons]
      by_cases h : (s : Int) < i
      · rw [if_pos h]; omega
      · rw [if_neg h]; omega
theorem rest_rank (w : Nat) (hw : w < 18446744073709551616) (i : Int) : (rankL (listW w) i : Int) + rankL (listW (notN w)) i = clampL i 64 := by
  have := rank_from w hw i 64 0 (by omega)
  unfold listW clampL
  rw [this]; simp
theorem rest_cnt (w : Nat) (hw : w < 18446744073709551616) : cntN w + cntN (notN w) = 64 := by
  have := rest_rank w hw 64
  rw [rankL_all, rankL_all] at this
  unfold clampL at this; omega

end Go.Proofs.YtnhdcefoigmjpaaDoor
