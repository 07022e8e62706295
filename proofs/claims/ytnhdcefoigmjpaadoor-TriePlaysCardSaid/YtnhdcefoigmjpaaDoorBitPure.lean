/-
  Plain facts on words as lists of their set bits. No program here.
-/
import Derived.Lib.TrailingZeros
import Derived.Lib.BitFns
import Derived.Test.YtnhdcefoigmjpaaDoorRefPure
namespace Go.Proofs.YtnhdcefoigmjpaaDoor
set_option linter.unusedVariables false
set_option linter.unusedSimpArgs false

def oneN (i : Int) : Nat := if 0 ≤ i ∧ i < 64 then 2 ^ i.toNat else 0
def belowN (i : Int) : Nat := if i ≤ 0 then 0 else if 64 ≤ i then 18446744073709551615 else 2 ^ i.toNat - 1
def notN (m : Nat) : Nat := 18446744073709551615 - m
def cntN (w : Nat) : Nat := (listW w).length
def getN (w : Nat) (i : Int) : Bool := hasL (listW w) i
def lowN (w : Nat) : Int := (listW w).headD (-1)
def highN (w : Nat) : Int := (listW w).getLastD (-1)
def setN (w : Nat) (i : Int) : Nat := w ||| oneN i
def clrN (w : Nat) (i : Int) : Nat := w &&& notN (oneN i)
def maskN (a b : Int) : Nat := belowN b &&& notN (belowN a)

theorem U64_pow : (18446744073709551616 : Nat) = 2 ^ 64 := by decide

theorem oneN_lt (i : Int) : oneN i < 18446744073709551616 := by
  unfold oneN
  split
  · rw [U64_pow]; exact Nat.pow_lt_pow_right (by decide) (by omega)
  · decide
theorem belowN_lt (i : Int) : belowN i < 18446744073709551616 := by
  unfold belowN
  split
  · decide
  · split
    · decide
    · have : 2 ^ i.toNat ≤ 2 ^ 64 := Nat.pow_le_pow_right (by decide) (by omega)
      rw [← U64_pow] at this; omega
theorem notN_lt (m : Nat) : notN m < 18446744073709551616 := by unfold notN; omega
theorem and_lt (a b : Nat) (h : b < 18446744073709551616) : a &&& b < 18446744073709551616 := Nat.lt_of_le_of_lt Nat.and_le_right h
theorem and_lt' (a b : Nat) (h : a < 18446744073709551616) : a &&& b < 18446744073709551616 := Nat.lt_of_le_of_lt Nat.and_le_left h
theorem or_lt (a b : Nat) (ha : a < 18446744073709551616) (hb : b < 18446744073709551616) : a ||| b < 18446744073709551616 := by
  rw [U64_pow] at *; exact Nat.or_lt_two_pow ha hb

theorem tb_oneN (i : Int) (j : Nat) : (oneN i).testBit j = decide ((j : Int) = i ∧ j < 64) := by
  unfold oneN
  split
  · rename_i h
    rw [Nat.testBit_two_pow]
    by_cases e : i.toNat = j
    · rw [decide_eq_true e, decide_eq_true]; omega
    · rw [decide_eq_false e, decide_eq_false]; omega
  · rename_i h
    rw [Nat.zero_testBit, decide_eq_false]; omega
theorem tb_belowN (i : Int) (j : Nat) : (belowN i).testBit j = decide ((j : Int) < i ∧ j < 64) := by
  unfold belowN
  split
  · rw [Nat.zero_testBit, decide_eq_false]; omega
  · split
    · rw [show (18446744073709551615 : Nat) = 2 ^ 64 - 1 by decide, Nat.testBit_two_pow_sub_one]
      by_cases e : j < 64
      · rw [decide_eq_true e, decide_eq_true]; omega
      · rw [decide_eq_false e, decide_eq_false]; omega
    · rw [Nat.testBit_two_pow_sub_one]
      by_cases e : j < i.toNat
      · rw [decide_eq_true e, decide_eq_true]; omega
      · rw [decide_eq_false e, decide_eq_false]; omega
theorem tb_notN (m : Nat) (hm : m < 18446744073709551616) (j : Nat) : (notN m).testBit j = (decide (j < 64) && !m.testBit j) := by
  unfold notN
  rw [show 18446744073709551615 - m = 2 ^ 64 - (m + 1) by rw [← U64_pow]; omega, Nat.testBit_two_pow_sub_succ (by rw [← U64_pow]; exact hm)]

/-- A word with a mask: the list, sifted. -/
theorem bitsFrom_and (w m d i : Nat) : bitsFrom (w &&& m) d i = (bitsFrom w d i).filter (fun x => m.testBit x.toNat) := by
  induction d generalizing i with
  | zero => rfl
  | succ d ih =>
    simp only [bitsFrom, List.filter_append, ih, Nat.testBit_and]
    congr 1
    by_cases h : w.testBit i <;> by_cases k : m.testBit i <;> simp [h, k]
theorem listW_and (w m : Nat) : listW (w &&& m) = (listW w).filter (fun x => m.testBit x.toNat) := bitsFrom_and ..
theorem mem_listW (w : Nat) (n : Int) : n ∈ listW w ↔ 0 ≤ n ∧ n < 64 ∧ w.testBit n.toNat = true := by
  unfold listW
  rw [mem_bitsFrom]
  constructor
  · rintro ⟨j, rfl, h1, h2, h3⟩
    exact ⟨by omega, by omega, by simpa using h3⟩
  · rintro ⟨h1, h2, h3⟩
    exact ⟨n.toNat, by omega, by omega, by omega, h3⟩
theorem listW_len (w : Nat) : (listW w).length ≤ 64 := bitsFrom_len ..
theorem cntN_le (w : Nat) : cntN w ≤ 64 := listW_len w
theorem bitsFrom_sorted (w d i : Nat) : (bitsFrom w d i).Pairwise (· < ·) := by
  induction d generalizing i with
  | zero => exact List.Pairwise.nil
  | succ d ih =>
    simp only [bitsFrom]
    refine List.pairwise_append.2 ⟨by split <;> simp, ih _, ?_⟩
    intro a ha b hb
    rw [mem_bitsFrom] at hb
    obtain ⟨j, rfl, h1, _⟩ := hb
    split at ha
    · simp at ha; omega
    · cases ha
theorem listW_sorted (w : Nat) : (listW w).Pairwise (· < ·) := bitsFrom_sorted ..

theorem get_eq (w : Nat) (i : Int) : decide (w &&& oneN i ≠ 0) = getN w i := by
  unfold getN hasL
  have h : w &&& oneN i ≠ 0 ↔ i ∈ listW w := by
    rw [mem_listW]
    constructor
    · intro h
      obtain ⟨j, hj⟩ := Nat.exists_testBit_of_ne_zero h
      rw [Nat.testBit_and, tb_oneN] at hj
      simp only [Bool.and_eq_true, decide_eq_true_eq] at hj
      obtain ⟨h1, h2, h3⟩ := hj
      exact ⟨by omega, by omega, by rw [← h2]; simpa using h1⟩
    · rintro ⟨h1, h2, h3⟩ h
      have := congrArg (fun q => q.testBit i.toNat) h
      simp only [Nat.testBit_and, h3, tb_oneN, Nat.zero_testBit] at this
      rw [decide_eq_true (by omega)] at this
      cases this
  by_cases k : i ∈ listW w
  · rw [decide_eq_true (h.2 k), decide_eq_true k]
  · rw [decide_eq_false (fun q => k (h.1 q)), decide_eq_false k]

theorem low_from (w d i : Nat) : (bitsFrom w d i).headD (-1) = if (w / 2 ^ i) % 2 ^ d = 0 then -1 else ((i + Lib.ctzFrom d (w / 2 ^ i) : Nat) : Int) := by
  induction d generalizing i with
  | zero => simp [bitsFrom, Nat.mod_one]
  | succ d ih =>
    have hb : w.testBit i = decide (w / 2 ^ i % 2 = 1) := by rw [Nat.testBit_eq_decide_div_mod_eq]
    have hd : w / 2 ^ (i + 1) = w / 2 ^ i / 2 := by rw [Nat.pow_succ, Nat.div_div_eq_div_mul]
    obtain ⟨q, hq⟩ : ∃ q, q = w / 2 ^ i := ⟨_, rfl⟩
    rw [← hq] at hb hd
    have ih' := ih (i + 1)
    rw [hd] at ih'
    rw [← hq]
    simp only [bitsFrom, Lib.ctzFrom]
    by_cases h : q % 2 = 1
    · rw [hb, decide_eq_true h, if_pos rfl, if_pos h]
      have : ¬ q % 2 ^ (d + 1) = 0 := by
        intro e
        have := Nat.mod_mod_of_dvd q (⟨2 ^ d, by rw [Nat.pow_succ, Nat.mul_comm]⟩ : 2 ∣ 2 ^ (d + 1))
        omega
      rw [if_neg this]; simp
    · rw [hb, decide_eq_false h, if_neg h]
      simp only [Bool.false_eq_true, if_false, List.nil_append]
      rw [ih']
      have e : q % 2 ^ (d + 1) = 2 * (q / 2 % 2 ^ d) := by
        rw [Nat.pow_succ, Nat.mul_comm, Nat.mod_mul]; omega
      by_cases k : q / 2 % 2 ^ d = 0
      · rw [if_pos k, if_pos (by rw [e, k])]
      · rw [if_neg k, if_neg (by rw [e]; omega)]; congr 1; omega
theorem low_eq (w : Nat) (hw : w < 18446744073709551616) : (if w = 0 then -1 else ((Lib.ctz 64 w : Nat) : Int)) = lowN w := by
  unfold lowN listW
  rw [low_from]
  simp only [Nat.pow_zero, Nat.div_one]
  rw [Nat.mod_eq_of_lt (by rw [← U64_pow]; exact hw)]
  by_cases h : w = 0
  · simp [h]
  · rw [if_neg h, if_neg h]; simp [Lib.ctz, h]
theorem high_from (w d i : Nat) (h : w / 2 ^ i < 2 ^ d) : (bitsFrom w d i).getLastD (-1) = if w / 2 ^ i = 0 then -1 else ((i + Lib.bitLenAux d (w / 2 ^ i) : Nat) : Int) - 1 := by
  induction d generalizing i with
  | zero => have : w / 2 ^ i = 0 := by simpa using h
            simp [bitsFrom, this]
  | succ d ih =>
    have hb : w.testBit i = decide (w / 2 ^ i % 2 = 1) := by rw [Nat.testBit_eq_decide_div_mod_eq]
    have hd : w / 2 ^ (i + 1) = w / 2 ^ i / 2 := by rw [Nat.pow_succ, Nat.div_div_eq_div_mul]
    obtain ⟨q, hq⟩ : ∃ q, q = w / 2 ^ i := ⟨_, rfl⟩
    rw [← hq] at hb hd h
    have ih' := ih (i + 1) (by rw [hd, Nat.pow_succ] at *; omega)
    rw [hd] at ih'
    rw [← hq]
    simp only [bitsFrom, Lib.bitLenAux]
    by_cases h0 : q = 0
    · subst h0
      rw [hb]; simp at ih' ⊢; exact ih'
    · rw [if_neg h0, if_neg h0]
      by_cases h2 : q / 2 = 0
      · have h1 : q = 1 := by omega
        have hn : bitsFrom w d (i + 1) = [] := by
          rw [if_pos h2] at ih'
          cases hl : bitsFrom w d (i + 1) with
          | nil => rfl
          | cons a r =>
            exfalso
            rw [hl, List.getLastD_cons] at ih'
            have hm : (a :: r).getLast (by simp) ∈ bitsFrom w d (i + 1) := by rw [hl]; exact List.getLast_mem _
            rw [mem_bitsFrom] at hm
            obtain ⟨j, hj, _⟩ := hm
            rw [List.getLastD_eq_getLast?] at ih'
            cases r with
            | nil => simp at ih' hj; omega
            | cons b s => rw [List.getLast?_eq_some_getLast (by simp)] at ih'; simp at ih' hj; rw [ih'] at hj; omega
        subst h1
        rw [hn, hb]
        have : Lib.bitLenAux d (1 / 2) = 0 := by cases d <;> simp [Lib.bitLenAux]
        rw [this]; simp
      · rw [if_neg h2] at ih'
        have hn : bitsFrom w d (i + 1) ≠ [] := by
          intro e; rw [e] at ih'; simp at ih'; omega
        rw [List.getLastD_eq_getLast?] at ih' ⊢
        rw [List.getLast?_append]
        rw [List.getLast?_eq_some_getLast hn] at ih' ⊢
        simp at ih' ⊢
        rw [ih']; omega
theorem high_eq (w : Nat) (hw : w < 18446744073709551616) : ((Lib.bitLen w : Nat) : Int) - 1 = highN w := by
  unfold highN listW
  rw [high_from w 64 0 (by simp only [Nat.pow_zero, Nat.div_one]; rw [← U64_pow]; exact hw)]
  simp only [Nat.pow_zero, Nat.div_one]
  by_cases h : w = 0
  · subst h; simp [Lib.bitLen, Lib.bitLenAux]
  · rw [if_neg h]; simp [Lib.bitLen]

theorem nextL_head (l : List Int) (n : Int) : nextL l n = (l.filter (fun x => decide (n ≤ x))).headD (-1) := by
  induction l with
  | nil => rfl
  | cons x r ih =>
    simp only [nextL, List.filter_cons]
    by_cases h : n ≤ x <;> simp [h, ih]
theorem prevF_last (l : List Int) (n b : Int) : prevF l n b = (l.filter (fun x => decide (x ≤ n))).getLastD b := by
  induction l generalizing b with
  | nil => rfl
  | cons x r ih =>
    simp only [prevF]
    by_cases h : x ≤ n
    · rw [if_pos h, ih, List.filter_cons_of_pos (by simpa using h), List.getLastD_cons]
    · rw [if_neg h, ih, List.filter_cons_of_neg (by simpa using h)]
theorem prevL_last (l : List Int) (n : Int) : prevL l n = (l.filter (fun x => decide (x ≤ n))).getLastD (-1) := prevF_last ..

theorem next_eq (w : Nat) (i : Int) : lowN (w &&& notN (belowN i)) = nextL (listW w) i := by
  unfold lowN
  rw [listW_and, nextL_head]
  congr 1
  apply List.filter_congr
  intro x hx
  obtain ⟨h1, h2, h3⟩ := (mem_listW w x).1 hx
  rw [tb_notN _ (belowN_lt i), tb_belowN]
  by_cases h : i ≤ x
  · rw [decide_eq_true h, decide_eq_true (by omega), decide_eq_false (by omega)]; rfl
  · rw [decide_eq_false h, decide_eq_true (p := x.toNat < 64) (by omega), decide_eq_true (by omega)]; rfl
theorem prev_eq (w : Nat) (i : Int) : highN (w &&& (belowN i ||| oneN i)) = prevL (listW w) i := by
  unfold highN
  rw [listW_and, prevL_last]
  congr 1
  apply List.filter_congr
  intro x hx
  obtain ⟨h1, h2, h3⟩ := (mem_listW w x).1 hx
  rw [Nat.testBit_or, tb_belowN, tb_oneN]
  by_cases h : x ≤ i
  · rw [decide_eq_true h]
    by_cases e : x = i
    · rw [decide_eq_true (p := ((x.toNat : Int) = i ∧ _)) (by omega)]; simp
    · rw [decide_eq_true (by omega)]; simp
  · rw [decide_eq_false h, decide_eq_false (by omega), decide_eq_false (by omega)]; rfl
theorem prev_neg (w : Nat) (i : Int) (h : i < 0) : prevL (listW w) i = -1 := by
  rw [prevL_last]
  have : (listW w).filter (fun x => decide (x ≤ i)) = [] := by
    rw [List.filter_eq_nil_iff]
    intro x hx
    have := ((mem_listW w x).1 hx).1
    simp; omega
  rw [this]; rfl
theorem rank_eq (w : Nat) (i : Int) : cntN (w &&& belowN i) = rankL (listW w) i := by
  unfold cntN rankL
  rw [listW_and]
  congr 1
  apply List.filter_congr
  intro x hx
  obtain ⟨h1, h2, h3⟩ := (mem_listW w x).1 hx
  rw [tb_belowN]
  by_cases h : x < i
  · rw [decide_eq_true h, decide_eq_true (by omega)]
  · rw [decide_eq_false h, decide_eq_false (by omega)]

/-! ### rank and select -/
theorem rankL_mono (l : List Int) {a b : Int} (h : a ≤ b) : rankL l a ≤ rankL l b := by
  induction l with
  | nil => simp [rankL]
  | cons x r ih =>
    simp only [rankL, List.filter_cons] at *
    by_cases h1 : x < a
    · rw [decide_eq_true h1, decide_eq_true (show x < b by omega)]; simpa using ih
    · rw [decide_eq_false h1]
      by_cases h2 : x < b <;> simp [h2] <;> omega
theorem mask_cnt (w : Nat) (a b : Int) (h : a ≤ b) : cntN (w &&& maskN a b) + rankL (listW w) a = rankL (listW w) b := by
  unfold cntN maskN
  rw [listW_and]
  have : (listW w).filter (fun x => (belowN b &&& notN (belowN a)).testBit x.toNat) = (listW w).filter (fun x => decide (a ≤ x ∧ x < b)) := by
    apply List.filter_congr
    intro x hx
    obtain ⟨h1, h2, h3⟩ := (mem_listW w x).1 hx
    rw [Nat.testBit_and, tb_notN _ (belowN_lt a), tb_belowN, tb_belowN]
    by_cases k : a ≤ x ∧ x < b
    · rw [decide_eq_true k, decide_eq_true (by omega), decide_eq_true (p := x.toNat < 64) (by omega), decide_eq_false (by omega)]; rfl
    · rw [decide_eq_false k]
      by_cases k2 : x < b
      · rw [decide_eq_true (p := ((x.toNat : Int) < a ∧ _)) (by omega)]; simp
      · rw [decide_eq_false (p := ((x.toNat : Int) < b ∧ _)) (by omega)]; simp
  rw [this]
  generalize listW w = l
  induction l with
  | nil => rfl
  | cons x r ih =>
    unfold rankL at *
    by_cases h1 : x < a
    · rw [List.filter_cons_of_neg (by simp; omega), List.filter_cons_of_pos (by simpa using h1), List.filter_cons_of_pos (by simp; omega), List.length_cons, List.length_cons]; omega
    · by_cases h2 : x < b
      · rw [List.filter_cons_of_pos (by simp; omega), List.filter_cons_of_neg (by simpa using h1), List.filter_cons_of_pos (by simpa using h2), List.length_cons, List.length_cons]; omega
      · rw [List.filter_cons_of_neg (by simp; omega), List.filter_cons_of_neg (by simpa using h1), List.filter_cons_of_neg (by simpa using h2)]; exact ih
theorem rankL_all (w : Nat) : rankL (listW w) 64 = cntN w := by
  unfold rankL cntN
  rw [List.filter_eq_self.2]
  intro x hx
  have := (mem_listW w x).1 hx
  simp; omega
theorem rankL_zero (w : Nat) : rankL (listW w) 0 = 0 := by
  unfold rankL
  rw [List.filter_eq_nil_iff.2]; rfl
  intro x hx
  have := (mem_listW w x).1 hx
  simp; omega
/-- In a rising list: the place whose next rank is greater is an element, and its rank leads to it. -/
theorem select_of_rank {l : List Int} (hl : l.Pairwise (· < ·)) {a : Int} (h : rankL l a < rankL l (a + 1)) : selectL l (rankL l a) = a ∧ a ∈ l := by
  induction l with
  | nil => simp [rankL] at h
  | cons x r ih =>
    rw [List.pairwise_cons] at hl
    have hge : ∀ b, b ≤ x → rankL r b = 0 := by
      intro b hb
      unfold rankL
      rw [List.filter_eq_nil_iff.2]; rfl
      intro y hy
      have := hl.1 y hy
      simp; omega
    by_cases h1 : x < a
    · have e1 : rankL (x :: r) a = rankL r a + 1 := by simp [rankL, List.filter_cons, h1]
      have e2 : rankL (x :: r) (a + 1) = rankL r (a + 1) + 1 := by simp [rankL, List.filter_cons, show x < a + 1 by omega]
      obtain ⟨i1, i2⟩ := ih hl.2 (by omega)
      refine ⟨?_, List.mem_cons_of_mem _ i2⟩
      rw [e1]
      simp only [selectL] at *
      rw [if_neg (by omega)] at *
      rw [show ((rankL r a + 1 : Nat) : Int).toNat = rankL r a + 1 by omega, List.getD_cons_succ]
      simpa using i1
    · have e1 : rankL (x :: r) a = 0 := by
        have := hge a (by omega)
        simp only [rankL, List.filter_cons] at *
        rw [decide_eq_false h1]; simpa using this
      have hx : x = a := by
        rcases Int.lt_or_eq_of_le (Int.not_lt.1 h1) with h2 | h2
        · exfalso
          have e3 := hge (a + 1) (by omega)
          have e4 : rankL (x :: r) (a + 1) = rankL r (a + 1) := by
            unfold rankL; rw [List.filter_cons_of_neg (by simp; omega)]
          omega
        · exact h2.symm
      subst hx
      exact ⟨by rw [e1]; simp [selectL], List.mem_cons_self⟩

theorem rankL_cons (x : Int) (r : List Int) (a : Int) : rankL (x :: r) a = (if x < a then 1 else 0) + rankL r a := by
  unfold rankL
  by_cases h : x < a
  · rw [List.filter_cons_of_pos (by simpa using h), if_pos h, List.length_cons]; omega
  · rw [List.filter_cons_of_neg (by simpa using h), if_neg h]; omega
theorem rankL_ge {r : List Int} {a : Int} (h : ∀ y, y ∈ r → a ≤ y) : rankL r a = 0 := by
  unfold rankL
  rw [List.filter_eq_nil_iff.2]; rfl
  intro y hy
  have := h y hy
  simp; omega
theorem rankL_step {l : List Int} (hl : l.Pairwise (· < ·)) (a : Int) : rankL l (a + 1) ≤ rankL l a + 1 := by
  induction l with
  | nil => simp [rankL]
  | cons x r ih =>
    rw [List.pairwise_cons] at hl
    have ih' := ih hl.2
    rw [rankL_cons, rankL_cons]
    by_cases h1 : x < a
    · rw [if_pos h1, if_pos (by omega)]; omega
    · by_cases h2 : x < a + 1
      · rw [if_neg h1, if_pos h2, rankL_ge (a := a + 1) (fun y hy => by have := hl.1 y hy; omega)]; omega
      · rw [if_neg h1, if_neg h2]; omega

/-! ### what the references' List makes -/
theorem bitsFrom_half (w d i : Nat) : bitsFrom w (d + 1) i = bitsFrom w d i ++ (if w.testBit (i + d) then [((i + d : Nat) : Int)] else []) := by
  induction d generalizing i with
  | zero => simp [bitsFrom]
  | succ d ih =>
    rw [bitsFrom, ih (i + 1), ← List.append_assoc, bitsFrom]
    rw [show i + 1 + d = i + (d + 1) by omega]
theorem listTo_snoc (w k : Nat) : bitsFrom w (k + 1) 0 = bitsFrom w k 0 ++ (if w.testBit k then [(k : Int)] else []) := by
  have := bitsFrom_half w k 0
  simpa using this
theorem tb_div (w k : Nat) : w.testBit k = decide (w / 2 ^ k % 2 = 1) := by rw [Nat.testBit_eq_decide_div_mod_eq]
theorem div_succ (w k : Nat) : w / 2 ^ (k + 1) = w / 2 ^ k / 2 := by rw [Nat.pow_succ, Nat.div_div_eq_div_mul]

end Go.Proofs.YtnhdcefoigmjpaaDoor
