/-
  Plain facts: the parts of a range of bits, word by word; what a loop over them makes. No memory here.
-/
import Derived.Test.YtiekoidlibhoeaaDoorStripPure
namespace Go.Proofs.YtiekoidlibhoeaaDoor
open Go.RowKit Go.Proofs.YtiekoidlibhoeaaDoorW.PrintWords Go.Proofs.YtiekoidlibhoeaaDoorW.PrintMore
set_option linter.unusedVariables false
set_option linter.unusedSimpArgs false

/-- The part that begins at a: which word, and its mask. -/
def partN (a e : Nat) : Nat × Nat := (a / 64, maskN ((a - 64 * (a / 64) : Nat) : Int) ((e - 64 * (a / 64) : Nat) : Int))
def partsL (a b : Nat) : List (Nat × Nat) :=
  if a < b then partN a (min b (64 * (a / 64 + 1))) :: partsL (min b (64 * (a / 64 + 1))) b else []
termination_by b - a
decreasing_by omega

theorem partsL_none (a b : Nat) (h : b ≤ a) : partsL a b = [] := by rw [partsL, if_neg (by omega)]
theorem partsL_cons (a b : Nat) (h : a < b) : partsL a b = partN a (min b (64 * (a / 64 + 1))) :: partsL (min b (64 * (a / 64 + 1))) b := by rw [partsL, if_pos h]
theorem partsL_len (b : Nat) : ∀ d a, b - a ≤ d → (partsL a b).length ≤ (b + 63) / 64 - a / 64 := by
  intro d
  induction d with
  | zero => intro a h; rw [partsL_none a b (by omega)]; simp
  | succ d ih =>
    intro a h
    by_cases hab : a < b
    · rw [partsL_cons a b hab, List.length_cons]
      have := ih (min b (64 * (a / 64 + 1))) (by omega)
      by_cases hb : b ≤ 64 * (a / 64 + 1)
      · rw [Nat.min_eq_left hb] at this ⊢
        rw [partsL_none b b (Nat.le_refl _)]; simp; omega
      · rw [Nat.min_eq_right (by omega)] at this ⊢; omega
    · rw [partsL_none a b (by omega)]; simp
theorem partsL_mem (b : Nat) : ∀ d a, b - a ≤ d → ∀ y, y ∈ partsL a b → y.1 < (b + 63) / 64 ∧ y.2 < 18446744073709551616 := by
  intro d
  induction d with
  | zero => intro a h y hy; rw [partsL_none a b (by omega)] at hy; cases hy
  | succ d ih =>
    intro a h y hy
    by_cases hab : a < b
    · rw [partsL_cons a b hab, List.mem_cons] at hy
      rcases hy with rfl | hy
      · refine ⟨?_, mask_lt _ _⟩
        show a / 64 < _
        omega
      · exact ih _ (by omega) y hy
    · rw [partsL_none a b (by omega)] at hy; cases hy

def orP (B : Nat) (y : Nat × Nat) : Nat := B ||| y.2 * 2 ^ (64 * y.1)
def clrP (B : Nat) (y : Nat × Nat) : Nat := B ^^^ (B &&& y.2 * 2 ^ (64 * y.1))
def fillF (s : Nat × Nat) (y : Nat × Nat) : Nat × Nat := (orP s.1 y, s.2 + cntN (y.2 &&& notN (wordN s.1 y.1)))
def wipeF (s : Nat × Nat) (y : Nat × Nat) : Nat × Nat := (clrP s.1 y, s.2 + cntN (y.2 &&& wordN s.1 y.1))
def rankF (B : Nat) (s : Nat) (y : Nat × Nat) : Nat := s + cntN (wordN B y.1 &&& y.2)

theorem tb_at (m k j : Nat) (hm : m < 18446744073709551616) : (m * 2 ^ (64 * k)).testBit j = decide (64 * k ≤ j ∧ j < 64 * (k + 1) ∧ m.testBit (j - 64 * k) = true) := by
  rw [Nat.testBit_mul_two_pow]
  by_cases h : 64 * k ≤ j
  · by_cases h2 : j < 64 * (k + 1)
    · simp [h, h2]
    · have : m.testBit (j - 64 * k) = false := tb_high hm (by omega)
      simp [h, h2, this]
  · simp [h]
theorem orP_word (B : Nat) (y : Nat × Nat) (hm : y.2 < 18446744073709551616) : wordN (orP B y) y.1 = wordN B y.1 ||| y.2 := by
  apply Nat.eq_of_testBit_eq; intro j
  rw [tb_wordN, orP, Nat.testBit_or, tb_at _ _ _ hm, Nat.testBit_or, tb_wordN]
  by_cases hj : j < 64
  · rw [show 64 * y.1 + j - 64 * y.1 = j by omega]
    have h1 : 64 * y.1 + j < 64 * (y.1 + 1) := by omega
    simp [hj, h1]
  · simp [hj, tb_high hm (show 64 ≤ j by omega)]
theorem orP_other (B q : Nat) (y : Nat × Nat) (hm : y.2 < 18446744073709551616) (hq : q ≠ y.1) : wordN (orP B y) q = wordN B q := by
  apply Nat.eq_of_testBit_eq; intro j
  rw [tb_wordN, orP, Nat.testBit_or, tb_at _ _ _ hm, tb_wordN]
  by_cases hj : j < 64
  · rw [decide_eq_false (p := 64 * y.1 ≤ 64 * q + j ∧ _) (by omega)]; simp
  · simp [hj]
theorem clrP_word (B : Nat) (y : Nat × Nat) (hm : y.2 < 18446744073709551616) : wordN (clrP B y) y.1 = wordN B y.1 &&& notN y.2 := by
  apply Nat.eq_of_testBit_eq; intro j
  rw [tb_wordN, clrP, Nat.testBit_xor, Nat.testBit_and, tb_at _ _ _ hm, Nat.testBit_and, tb_wordN, tb_notN _ hm]
  by_cases hj : j < 64
  · rw [show 64 * y.1 + j - 64 * y.1 = j by omega]
    have h1 : 64 * y.1 + j < 64 * (y.1 + 1) := by omega
    simp only [hj, h1, decide_true, Bool.true_and, true_and, Nat.le_add_right]
    cases B.testBit (64 * y.1 + j) <;> cases y.2.testBit j <;> rfl
  · simp [hj]
theorem clrP_other (B q : Nat) (y : Nat × Nat) (hm : y.2 < 18446744073709551616) (hq : q ≠ y.1) : wordN (clrP B y) q = wordN B q := by
  apply Nat.eq_of_testBit_eq; intro j
  rw [tb_wordN, clrP, Nat.testBit_xor, Nat.testBit_and, tb_at _ _ _ hm, tb_wordN]
  by_cases hj : j < 64
  · rw [decide_eq_false (p := 64 * y.1 ≤ 64 * q + j ∧ _) (by omega)]; simp
  · simp [hj]
theorem orP_lt {B n : Nat} {y : Nat × Nat} (hB : B < 2 ^ (64 * n)) (hm : y.2 < 18446744073709551616) (hy : y.1 < n) : orP B y < 2 ^ (64 * n) := by
  apply lt_of_tb; intro j hj; rw [orP, Nat.testBit_or, big_tb hB hj, tb_at _ _ _ hm, decide_eq_false (by omega)]; rfl
theorem clrP_lt {B D : Nat} {y : Nat × Nat} (hB : B < 2 ^ D) : clrP B y < 2 ^ D := by
  apply lt_of_tb; intro j hj; rw [clrP, Nat.testBit_xor, Nat.testBit_and, big_tb hB hj]; rfl
theorem part_at (a e j : Nat) (h2 : e ≤ 64 * (a / 64 + 1)) : ((partN a e).2 * 2 ^ (64 * (partN a e).1)).testBit j = decide (a ≤ j ∧ j < e) := by
  rw [tb_at (partN a e).2 _ _ (mask_lt _ _)]
  apply decide_eq_decide.2
  show 64 * (a / 64) ≤ j ∧ j < 64 * (a / 64 + 1) ∧ (maskN _ _).testBit (j - 64 * (a / 64)) = true ↔ _
  rw [tb_mask _ _ (by omega), decide_eq_true_eq]
  omega
theorem orP_part (B a e : Nat) (h2 : e ≤ 64 * (a / 64 + 1)) : orP B (partN a e) = fillN B a e := by
  apply Nat.eq_of_testBit_eq; intro j
  rw [orP, Nat.testBit_or, part_at _ _ _ h2, tb_fill]
theorem clrP_part (B a e : Nat) (h2 : e ≤ 64 * (a / 64 + 1)) : clrP B (partN a e) = wipeN B a e := by
  apply Nat.eq_of_testBit_eq; intro j
  rw [clrP, Nat.testBit_xor, Nat.testBit_and, part_at _ _ _ h2, tb_wipe]
  cases B.testBit j <;> simp
theorem fold_fill (b : Nat) : ∀ d a B c, b - a ≤ d → a ≤ b → (partsL a b).foldl fillF (B, c) = (fillN B a b, c + (b - a - segN B a b)) := by
  intro d
  induction d with
  | zero =>
    intro a B c h hab
    rw [partsL_none a b (by omega), fill_none B a b (by omega), show b - a = 0 by omega]; simp
  | succ d ih =>
    intro a B c h hab
    by_cases hlt : a < b
    · obtain ⟨e, he⟩ : ∃ e, e = min b (64 * (a / 64 + 1)) := ⟨_, rfl⟩
      have h2 : e ≤ 64 * (a / 64 + 1) := by omega
      rw [partsL_cons a b hlt, ← he, List.foldl_cons, fillF, orP_part _ _ _ h2, ih e _ _ (by omega) (by omega), fill_fill _ _ _ _ (by omega) (by omega), fill_seg _ _ _ _ (by omega) (by omega)]
      have hf : cntN ((partN a e).2 &&& notN (wordN B (partN a e).1)) + segN B a e = e - a := part_free B (a / 64) a e (by omega) h2 (by omega)
      have hs := seg_add B a e b (by omega) (by omega)
      have hl1 := seg_le B a e
      have hl2 := seg_le B e b
      congr 1
      show c + cntN ((partN a e).2 &&& notN (wordN B (partN a e).1)) + (b - e - segN B e b) = _
      omega
    · rw [partsL_none a b (by omega), fill_none B a b (by omega), show b - a = 0 by omega]; simp
theorem fold_wipe (b : Nat) : ∀ d a B c, b - a ≤ d → a ≤ b → (partsL a b).foldl wipeF (B, c) = (wipeN B a b, c + segN B a b) := by
  intro d
  induction d with
  | zero =>
    intro a B c h hab
    rw [partsL_none a b (by omega), wipe_none B a b (by omega), seg_none B a b (by omega)]; rfl
  | succ d ih =>
    intro a B c h hab
    by_cases hlt : a < b
    · obtain ⟨e, he⟩ : ∃ e, e = min b (64 * (a / 64 + 1)) := ⟨_, rfl⟩
      have h2 : e ≤ 64 * (a / 64 + 1) := by omega
      rw [partsL_cons a b hlt, ← he, List.foldl_cons, wipeF, clrP_part _ _ _ h2, ih e _ _ (by omega) (by omega), wipe_wipe _ _ _ _ (by omega) (by omega), wipe_seg _ _ _ _ (by omega) (by omega)]
      have hf : cntN ((partN a e).2 &&& wordN B (partN a e).1) = segN B a e := by rw [Nat.and_comm]; exact part_cnt B (a / 64) a e (by omega) h2 (by omega)
      have hs := seg_add B a e b (by omega) (by omega)
      congr 1
      show c + cntN ((partN a e).2 &&& wordN B (partN a e).1) + segN B e b = _
      omega
    · rw [partsL_none a b (by omega), wipe_none B a b (by omega), seg_none B a b (by omega)]; rfl
theorem fold_rank (B b : Nat) : ∀ d a c, b - a ≤ d → a ≤ b → (partsL a b).foldl (rankF B) c = c + segN B a b := by
  intro d
  induction d with
  | zero =>
    intro a c h hab
    rw [partsL_none a b (by omega), seg_none B a b (by omega)]; rfl
  | succ d ih =>
    intro a c h hab
    by_cases hlt : a < b
    · obtain ⟨e, he⟩ : ∃ e, e = min b (64 * (a / 64 + 1)) := ⟨_, rfl⟩
      have h2 : e ≤ 64 * (a / 64 + 1) := by omega
      rw [partsL_cons a b hlt, ← he, List.foldl_cons, rankF, ih e _ (by omega) (by omega)]
      have hf : cntN (wordN B (partN a e).1 &&& (partN a e).2) = segN B a e := part_cnt B (a / 64) a e (by omega) h2 (by omega)
      have hs := seg_add B a e b (by omega) (by omega)
      omega
    · rw [partsL_none a b (by omega), seg_none B a b (by omega)]; rfl
/-- How much a fold may have counted. -/
theorem fill_bd (l : List (Nat × Nat)) : ∀ s : Nat × Nat, (l.foldl fillF s).2 ≤ s.2 + 64 * l.length := by
  induction l with
  | nil => intro s; simp
  | cons y r ih =>
    intro s
    have := ih (fillF s y)
    have h : (fillF s y).2 ≤ s.2 + 64 := by have := cntN_le (y.2 &&& notN (wordN s.1 y.1)); simp only [fillF]; omega
    rw [List.foldl_cons, List.length_cons]; omega
theorem wipe_bd (l : List (Nat × Nat)) : ∀ s : Nat × Nat, (l.foldl wipeF s).2 ≤ s.2 + 64 * l.length := by
  induction l with
  | nil => intro s; simp
  | cons y r ih =>
    intro s
    have := ih (wipeF s y)
    have h : (wipeF s y).2 ≤ s.2 + 64 := by have := cntN_le (y.2 &&& wordN s.1 y.1); simp only [wipeF]; omega
    rw [List.foldl_cons, List.length_cons]; omega
theorem rank_bd (B : Nat) (l : List (Nat × Nat)) : ∀ s : Nat, l.foldl (rankF B) s ≤ s + 64 * l.length := by
  induction l with
  | nil => intro s; simp
  | cons y r ih =>
    intro s
    have := ih (rankF B s y)
    have h : rankF B s y ≤ s + 64 := by have := cntN_le (wordN B y.1 &&& y.2); simp only [rankF]; omega
    rw [List.foldl_cons, List.length_cons]; omega

theorem fold_fill' (a b B : Nat) : (partsL a b).foldl fillF (B, 0) = (fillN B a b, b - a - segN B a b) := by
  by_cases h : a ≤ b
  · rw [fold_fill b _ a B 0 (Nat.le_refl _) h, Nat.zero_add]
  · rw [partsL_none a b (by omega), fill_none B a b (by omega), show b - a = 0 by omega]; simp
theorem fold_wipe' (a b B : Nat) : (partsL a b).foldl wipeF (B, 0) = (wipeN B a b, segN B a b) := by
  by_cases h : a ≤ b
  · rw [fold_wipe b _ a B 0 (Nat.le_refl _) h, Nat.zero_add]
  · rw [partsL_none a b (by omega), wipe_none B a b (by omega), seg_none B a b (by omega)]; rfl

/-- Where a range begins and ends, within D bits. -/
def fromN (a : Int) : Nat := (max a 0).toNat
def toN (b : Int) (D : Nat) : Nat := (min b (D : Int)).toNat
theorem parts_len (a : Int) (b : Int) (n : Nat) : (partsL (fromN a) (toN b (64 * n))).length ≤ n := by
  have := partsL_len (toN b (64 * n)) _ (fromN a) (Nat.le_refl _)
  have h : toN b (64 * n) ≤ 64 * n := by unfold toN; omega
  omega
theorem parts_mem (a : Int) (b : Int) (n : Nat) : ∀ y, y ∈ partsL (fromN a) (toN b (64 * n)) → y.1 < n ∧ y.2 < 18446744073709551616 := by
  intro y hy
  have := partsL_mem (toN b (64 * n)) _ (fromN a) (Nat.le_refl _) y hy
  have h : toN b (64 * n) ≤ 64 * n := by unfold toN; omega
  exact ⟨by omega, this.2⟩
end Go.Proofs.YtiekoidlibhoeaaDoor
