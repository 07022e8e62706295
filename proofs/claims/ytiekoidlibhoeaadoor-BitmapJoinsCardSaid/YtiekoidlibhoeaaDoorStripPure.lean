/-
  Plain facts: words behind one another as one number; ranges of its bits set and cleared. No memory here.
-/
import Derived.Test.YtiekoidlibhoeaaDoorBitPure2
import Derived.Test.YtiekoidlibhoeaaDoorPop
namespace Go.Proofs.YtiekoidlibhoeaaDoor
open Go.RowKit Go.Proofs.YtiekoidlibhoeaaDoorW.PrintWords Go.Proofs.YtiekoidlibhoeaaDoorW.PrintMore
set_option linter.unusedVariables false
set_option linter.unusedSimpArgs false

def wordN (B k : Nat) : Nat := B / 2 ^ (64 * k) % 18446744073709551616
def wordsI (n B : Nat) : List Int := (List.range n).map (fun k => (wordN B k : Int))
def rngN (a b : Nat) : Nat := (2 ^ (b - a) - 1) * 2 ^ a
def fillN (B a b : Nat) : Nat := B ||| rngN a b
def wipeN (B a b : Nat) : Nat := B ^^^ (B &&& rngN a b)
def segN (B a b : Nat) : Nat := (bitsFrom B (b - a) a).length
def listB (n B : Nat) : List Int := bitsFrom B (64 * n) 0

theorem wordN_lt (B k : Nat) : wordN B k < 18446744073709551616 := Nat.mod_lt _ (by decide)
theorem tb_wordN (B k j : Nat) : (wordN B k).testBit j = (decide (j < 64) && B.testBit (64 * k + j)) := by
  unfold wordN
  rw [show (18446744073709551616 : Nat) = 2 ^ 64 by decide, Nat.testBit_mod_two_pow, Nat.testBit_div_two_pow, Nat.add_comm]
theorem wordsI_len (n B : Nat) : (wordsI n B).length = n := by simp [wordsI]
theorem wordsI_get (n B k : Nat) (h : k < (wordsI n B).length) : (wordsI n B)[k] = (wordN B k : Int) := by simp [wordsI]
theorem wordsI_bd (n B : Nat) : ∀ a, a ∈ wordsI n B → 0 ≤ a ∧ a ≤ 18446744073709551615 := by
  intro a ha
  simp only [wordsI, List.mem_map] at ha
  obtain ⟨k, _, rfl⟩ := ha
  have := wordN_lt B k
  omega
theorem tb_rng (a b j : Nat) : (rngN a b).testBit j = decide (a ≤ j ∧ j < b) := by
  unfold rngN
  rw [Nat.testBit_mul_two_pow, Nat.testBit_two_pow_sub_one]
  by_cases h : a ≤ j
  · simp [h]; omega
  · simp [h]
theorem tb_fill (B a b j : Nat) : (fillN B a b).testBit j = (B.testBit j || decide (a ≤ j ∧ j < b)) := by rw [fillN, Nat.testBit_or, tb_rng]
theorem tb_wipe (B a b j : Nat) : (wipeN B a b).testBit j = (B.testBit j && !decide (a ≤ j ∧ j < b)) := by
  rw [wipeN, Nat.testBit_xor, Nat.testBit_and, tb_rng]
  cases B.testBit j <;> simp
theorem fill_none (B a b : Nat) (h : b ≤ a) : fillN B a b = B := by
  apply Nat.eq_of_testBit_eq; intro j; rw [tb_fill]; simp; omega
theorem wipe_none (B a b : Nat) (h : b ≤ a) : wipeN B a b = B := by
  apply Nat.eq_of_testBit_eq; intro j; rw [tb_wipe]
  rw [decide_eq_false (by omega)]; simp
theorem fill_fill (B a e b : Nat) (h1 : a ≤ e) (h2 : e ≤ b) : fillN (fillN B a e) e b = fillN B a b := by
  apply Nat.eq_of_testBit_eq; intro j; rw [tb_fill, tb_fill, tb_fill, Bool.or_assoc]
  congr 1
  rw [← Bool.decide_or]
  apply decide_eq_decide.2; omega
theorem wipe_wipe (B a e b : Nat) (h1 : a ≤ e) (h2 : e ≤ b) : wipeN (wipeN B a e) e b = wipeN B a b := by
  apply Nat.eq_of_testBit_eq; intro j; rw [tb_wipe, tb_wipe, tb_wipe, Bool.and_assoc]
  congr 1
  rw [← Bool.not_or, ← Bool.decide_or]
  congr 1
  apply decide_eq_decide.2; omega
theorem big_tb {B D : Nat} (hB : B < 2 ^ D) {j : Nat} (h : D ≤ j) : B.testBit j = false :=
  Nat.testBit_lt_two_pow (Nat.lt_of_lt_of_le hB (Nat.pow_le_pow_right (by decide) h))
theorem lt_of_tb {B D : Nat} (h : ∀ j, D ≤ j → B.testBit j = false) : B < 2 ^ D := by
  apply Nat.lt_pow_two_of_testBit
  intro j hj; exact h j hj
theorem fill_lt {B D a b : Nat} (hB : B < 2 ^ D) (hb : b ≤ D) : fillN B a b < 2 ^ D := by
  apply lt_of_tb; intro j hj; rw [tb_fill, big_tb hB hj]; simp; omega
theorem wipe_lt {B D a b : Nat} (hB : B < 2 ^ D) : wipeN B a b < 2 ^ D := by
  apply lt_of_tb; intro j hj; rw [tb_wipe, big_tb hB hj]; simp

/-- A part of a word: the word's new value; the other words stay. -/
theorem fill_word (B k a e : Nat) (h1 : 64 * k ≤ a) (h2 : e ≤ 64 * (k + 1)) : wordN (fillN B a e) k = wordN B k ||| maskN ((a - 64 * k : Nat) : Int) ((e - 64 * k : Nat) : Int) := by
  apply Nat.eq_of_testBit_eq; intro j
  rw [tb_wordN, tb_fill, Nat.testBit_or, tb_wordN, maskN, Nat.testBit_and, tb_belowN, tb_notN _ (belowN_lt _), tb_belowN]
  by_cases hj : j < 64
  · simp only [hj, decide_true, Bool.true_and, and_true]
    congr 1
    rw [← decide_not, ← Bool.decide_and]
    apply decide_eq_decide.2; omega
  · simp [hj]
theorem wipe_word (B k a e : Nat) (h1 : 64 * k ≤ a) (h2 : e ≤ 64 * (k + 1)) : wordN (wipeN B a e) k = wordN B k &&& notN (maskN ((a - 64 * k : Nat) : Int) ((e - 64 * k : Nat) : Int)) := by
  apply Nat.eq_of_testBit_eq; intro j
  have hm : maskN ((a - 64 * k : Nat) : Int) ((e - 64 * k : Nat) : Int) < 18446744073709551616 := and_lt' _ _ (belowN_lt _)
  rw [tb_wordN, tb_wipe, Nat.testBit_and, tb_wordN, tb_notN _ hm, maskN, Nat.testBit_and, tb_belowN, tb_notN _ (belowN_lt _), tb_belowN]
  by_cases hj : j < 64
  · simp only [hj, decide_true, Bool.true_and, and_true]
    congr 2
    rw [← decide_not, ← Bool.decide_and]
    apply decide_eq_decide.2; omega
  · simp [hj]
theorem fill_other (B k q a e : Nat) (h1 : 64 * k ≤ a) (h2 : e ≤ 64 * (k + 1)) (hq : q ≠ k) : wordN (fillN B a e) q = wordN B q := by
  apply Nat.eq_of_testBit_eq; intro j
  rw [tb_wordN, tb_fill, tb_wordN]
  by_cases hj : j < 64
  · rw [decide_eq_false (p := a ≤ 64 * q + j ∧ _) (by omega)]; simp
  · simp [hj]
theorem wipe_other (B k q a e : Nat) (h1 : 64 * k ≤ a) (h2 : e ≤ 64 * (k + 1)) (hq : q ≠ k) : wordN (wipeN B a e) q = wordN B q := by
  apply Nat.eq_of_testBit_eq; intro j
  rw [tb_wordN, tb_wipe, tb_wordN]
  by_cases hj : j < 64
  · rw [decide_eq_false (p := a ≤ 64 * q + j ∧ _) (by omega)]; simp
  · simp [hj]
theorem words_set (n B B' k : Nat) (u : Int) (hu : (wordN B' k : Int) = u) (ho : ∀ q, q ≠ k → wordN B' q = wordN B q) : (wordsI n B).set k u = wordsI n B' := by
  apply List.ext_getElem
  · simp [wordsI_len]
  · intro i h1 h2
    rw [List.getElem_set, wordsI_get]
    by_cases h : k = i
    · subst h; rw [if_pos rfl, ← hu, wordsI_get]
    · rw [if_neg h, wordsI_get, ho i (by omega)]
/-- A number is its words. -/
theorem words_ext {n B C : Nat} (hB : B < 2 ^ (64 * n)) (hC : C < 2 ^ (64 * n)) (h : wordsI n B = wordsI n C) : B = C := by
  apply Nat.eq_of_testBit_eq; intro j
  by_cases hj : j < 64 * n
  · have hk : j / 64 < n := by omega
    have h1 : wordN B (j / 64) = wordN C (j / 64) := by
      have e1 := wordsI_get n B (j / 64) (by rw [wordsI_len]; exact hk)
      have e2 := wordsI_get n C (j / 64) (by rw [wordsI_len]; exact hk)
      have : (wordsI n B)[j / 64]'(by rw [wordsI_len]; exact hk) = (wordsI n C)[j / 64]'(by rw [wordsI_len]; exact hk) := by simp only [h]
      rw [e1, e2] at this; omega
    have h2 := tb_wordN B (j / 64) (j % 64)
    have h3 := tb_wordN C (j / 64) (j % 64)
    rw [decide_eq_true (by omega : j % 64 < 64), Bool.true_and, show 64 * (j / 64) + j % 64 = j by omega] at h2 h3
    rw [← h2, ← h3, h1]
  · rw [big_tb hB (by omega), big_tb hC (by omega)]
/-- Any words make a number. -/
def bigN : List Int → Nat
  | [] => 0
  | x :: r => x.toNat + 2 ^ 64 * bigN r
theorem bigN_lt (l : List Int) (hb : ∀ a, a ∈ l → 0 ≤ a ∧ a ≤ 18446744073709551615) : bigN l < 2 ^ (64 * l.length) := by
  induction l with
  | nil => decide
  | cons x r ih =>
    have h1 := ih (fun a ha => hb a (List.mem_cons_of_mem _ ha))
    have h2 := hb x List.mem_cons_self
    rw [bigN, List.length_cons, show 64 * (r.length + 1) = 64 + 64 * r.length by omega, Nat.pow_add]
    have h3 : 2 ^ 64 * (bigN r + 1) ≤ 2 ^ 64 * 2 ^ (64 * r.length) := Nat.mul_le_mul_left _ h1
    have h4 : x.toNat < 2 ^ 64 := by rw [← U64_pow]; omega
    omega
theorem bigN_words (l : List Int) (hb : ∀ a, a ∈ l → 0 ≤ a ∧ a ≤ 18446744073709551615) : wordsI l.length (bigN l) = l := by
  induction l with
  | nil => rfl
  | cons x r ih =>
    have h1 := ih (fun a ha => hb a (List.mem_cons_of_mem _ ha))
    have h2 := hb x List.mem_cons_self
    have h4 : x.toNat < 18446744073709551616 := by omega
    rw [wordsI, List.length_cons, List.range_succ_eq_map, List.map_cons, List.map_map]
    congr 1
    · show ((wordN (bigN (x :: r)) 0 : Nat) : Int) = x
      rw [wordN, bigN, ← U64_pow]; simp; omega
    · conv => rhs; rw [← h1]
      rw [wordsI]
      apply List.map_congr_left
      intro k _
      show ((wordN (bigN (x :: r)) (k + 1) : Nat) : Int) = (wordN (bigN r) k : Int)
      congr 1
      rw [wordN, wordN, bigN, show 64 * (k + 1) = 64 + 64 * k by omega, Nat.pow_add, ← Nat.div_div_eq_div_mul]
      congr 2
      rw [← U64_pow]; omega

/-! ### how many are set -/
theorem seg_none (B a b : Nat) (h : b ≤ a) : segN B a b = 0 := by rw [segN, show b - a = 0 by omega]; rfl
theorem seg_le (B a b : Nat) : segN B a b ≤ b - a := bitsFrom_len _ _ _
theorem seg_add (B a e b : Nat) (h1 : a ≤ e) (h2 : e ≤ b) : segN B a e + segN B e b = segN B a b := by
  rw [segN, segN, segN, show b - a = (e - a) + (b - e) by omega, bits_split, List.length_append, show a + (e - a) = e by omega]
theorem bits_nil (u d : Nat) : ∀ i, (∀ k, k < d → u.testBit (i + k) = false) → bitsFrom u d i = [] := by
  induction d with
  | zero => intros; rfl
  | succ d ih =>
    intro i h
    rw [bitsFrom, ih (i + 1) (fun k hk => by rw [show i + 1 + k = i + (k + 1) by omega]; exact h (k + 1) (by omega))]
    have := h 0 (by omega)
    simp only [Nat.add_zero] at this
    simp [this]
theorem bits_not (u v d : Nat) : ∀ i j, (∀ k, k < d → u.testBit (i + k) = !v.testBit (j + k)) → (bitsFrom u d i).length + (bitsFrom v d j).length = d := by
  induction d with
  | zero => intros; rfl
  | succ d ih =>
    intro i j h
    simp only [bitsFrom, List.length_append]
    have h1 := ih (i + 1) (j + 1) (fun k hk => by rw [show i + 1 + k = i + (k + 1) by omega, show j + 1 + k = j + (k + 1) by omega]; exact h (k + 1) (by omega))
    have := h 0 (by omega)
    simp only [Nat.add_zero] at this
    cases hv : v.testBit j <;> simp [this, hv] <;> omega
/-- Bits of a word that lie between two places alone. -/
theorem cnt_mid (u p q : Nat) (h1 : p ≤ q) (h2 : q ≤ 64) (h : ∀ j, j < 64 → ¬ (p ≤ j ∧ j < q) → u.testBit j = false) : cntN u = (bitsFrom u (q - p) p).length := by
  have e1 : bitsFrom u 64 0 = bitsFrom u p 0 ++ (bitsFrom u (q - p) p ++ bitsFrom u (64 - q) q) := by
    have a1 := bits_split u p (64 - p) 0
    have a2 := bits_split u (q - p) (64 - q) p
    rw [show p + (64 - p) = 64 by omega, Nat.zero_add] at a1
    rw [show q - p + (64 - q) = 64 - p by omega, show p + (q - p) = q by omega] at a2
    rw [a1, a2]
  rw [cntN, listW, e1, bits_nil u p 0 (fun k hk => h _ (by omega) (by omega)), bits_nil u (64 - q) q (fun k hk => h _ (by omega) (by omega))]
  simp
theorem tb_mask (p q : Nat) (h2 : q ≤ 64) (j : Nat) : (maskN (p : Int) (q : Int)).testBit j = decide (p ≤ j ∧ j < q) := by
  rw [maskN, Nat.testBit_and, tb_belowN, tb_notN _ (belowN_lt _), tb_belowN]
  by_cases hj : j < 64
  · simp only [hj, decide_true, Bool.true_and, and_true]
    rw [← decide_not, ← Bool.decide_and]
    apply decide_eq_decide.2; omega
  · simp [hj]; omega
theorem mask_lt (a b : Int) : maskN a b < 18446744073709551616 := and_lt' _ _ (belowN_lt _)
theorem part_cnt (B k a e : Nat) (h1 : 64 * k ≤ a) (h2 : e ≤ 64 * (k + 1)) (h3 : a ≤ e) : cntN (wordN B k &&& maskN ((a - 64 * k : Nat) : Int) ((e - 64 * k : Nat) : Int)) = segN B a e := by
  rw [cnt_mid _ (a - 64 * k) (e - 64 * k) (by omega) (by omega), segN, show e - 64 * k - (a - 64 * k) = e - a by omega]
  · apply bits_len_eq
    intro j hj
    rw [Nat.testBit_and, tb_mask _ _ (by omega), tb_wordN, decide_eq_true (by omega : a - 64 * k + j < 64), decide_eq_true (by omega), show 64 * k + (a - 64 * k + j) = a + j by omega]
    simp
  · intro j hj hn
    rw [Nat.testBit_and, tb_mask _ _ (by omega), decide_eq_false hn]; simp
theorem part_free (B k a e : Nat) (h1 : 64 * k ≤ a) (h2 : e ≤ 64 * (k + 1)) (h3 : a ≤ e) : cntN (maskN ((a - 64 * k : Nat) : Int) ((e - 64 * k : Nat) : Int) &&& notN (wordN B k)) + segN B a e = e - a := by
  rw [cnt_mid _ (a - 64 * k) (e - 64 * k) (by omega) (by omega), segN, show e - 64 * k - (a - 64 * k) = e - a by omega]
  · apply bits_not
    intro j hj
    rw [Nat.testBit_and, tb_mask _ _ (by omega), tb_notN _ (wordN_lt _ _), tb_wordN, decide_eq_true (by omega : a - 64 * k + j < 64), decide_eq_true (by omega), show 64 * k + (a - 64 * k + j) = a + j by omega]
    simp
  · intro j hj hn
    rw [Nat.testBit_and, tb_mask _ _ (by omega), decide_eq_false hn]; simp

/-! ### the list of what is set -/
theorem mem_listB (n B : Nat) (x : Int) : x ∈ listB n B ↔ 0 ≤ x ∧ x < 64 * n ∧ B.testBit x.toNat = true := by
  rw [listB, mem_bitsFrom]
  constructor
  · rintro ⟨j, rfl, _, h, ht⟩; exact ⟨by omega, by omega, by simpa using ht⟩
  · rintro ⟨h1, h2, h3⟩; exact ⟨x.toNat, by omega, by omega, by omega, h3⟩
theorem listB_sorted (n B : Nat) : (listB n B).Pairwise (· < ·) := bitsFrom_sorted _ _ _
theorem listB_len (n B : Nat) : (listB n B).length ≤ 64 * n := bitsFrom_len _ _ _
theorem listB_zero (n : Nat) : listB n 0 = [] := bits_nil _ _ _ (fun _ _ => Nat.zero_testBit _)
theorem has_listB (n B : Nat) (x : Int) : hasL (listB n B) x = decide (0 ≤ x ∧ x < 64 * n ∧ B.testBit x.toNat = true) := by
  unfold hasL; exact decide_eq_decide.2 (mem_listB n B x)
theorem add_listB (n B i : Nat) (h : i < 64 * n) : addL (listB n B) i = listB n (fillN B i (i + 1)) := by
  refine sorted_ext (addL_sorted (listB_sorted _ _) _) (listB_sorted _ _) (fun x => ?_)
  rw [addL_mem, mem_listB, mem_listB, tb_fill]
  constructor
  · rintro (⟨h1, h2, h3⟩ | rfl)
    · exact ⟨h1, h2, by rw [h3]; rfl⟩
    · exact ⟨by omega, by omega, by rw [decide_eq_true (by omega)]; simp⟩
  · rintro ⟨h1, h2, h3⟩
    by_cases hx : x = i
    · right; exact hx
    · left; refine ⟨h1, h2, ?_⟩
      rw [decide_eq_false (by omega), Bool.or_false] at h3; exact h3
theorem drop_listB (n B i : Nat) : dropL (listB n B) i = listB n (wipeN B i (i + 1)) := by
  refine sorted_ext (dropL_sorted (listB_sorted _ _) _) (listB_sorted _ _) (fun x => ?_)
  rw [dropL_mem, mem_listB, mem_listB, tb_wipe]
  constructor
  · rintro ⟨⟨h1, h2, h3⟩, hx⟩
    exact ⟨h1, h2, by rw [h3, decide_eq_false (by omega)]; rfl⟩
  · rintro ⟨h1, h2, h3⟩
    rw [Bool.and_eq_true] at h3
    refine ⟨⟨h1, h2, h3.1⟩, fun hx => ?_⟩
    rw [decide_eq_true (by omega)] at h3
    simp at h3
theorem len_listB (n B : Nat) : (listB n B).length = segN B 0 (64 * n) := by rw [listB, segN, Nat.sub_zero]
theorem rank_listB (n B a : Nat) (h : a ≤ 64 * n) : rankL (listB n B) a = segN B 0 a := by
  rw [listB, show 64 * n = a + (64 * n - a) by omega, bits_split, Nat.zero_add, rankL, List.filter_append, List.length_append, segN, Nat.sub_zero]
  rw [List.filter_eq_self.2 (fun x hx => ?_), List.filter_eq_nil_iff.2 (fun x hx => ?_)]
  · rfl
  · rw [mem_bitsFrom] at hx
    obtain ⟨j, rfl, h1, h2, _⟩ := hx
    simp; omega
  · rw [mem_bitsFrom] at hx
    obtain ⟨j, rfl, h1, h2, _⟩ := hx
    simp; omega
theorem rank_clamp (n B : Nat) (i : Int) : rankL (listB n B) i = segN B 0 (min (max i 0).toNat (64 * n)) := by
  rw [← rank_listB n B _ (by omega)]
  unfold rankL
  congr 1
  apply List.filter_congr
  intro x hx
  rw [mem_listB] at hx
  apply decide_eq_decide.2; omega
theorem fill_seg (B a e b : Nat) (h1 : a ≤ e) (h2 : e ≤ b) : segN (fillN B a e) e b = segN B e b := by
  rw [segN, segN]
  apply bits_len_eq
  intro k hk
  rw [tb_fill, decide_eq_false (by omega), Bool.or_false]
theorem wipe_seg (B a e b : Nat) (h1 : a ≤ e) (h2 : e ≤ b) : segN (wipeN B a e) e b = segN B e b := by
  rw [segN, segN]
  apply bits_len_eq
  intro k hk
  rw [tb_wipe, decide_eq_false (by omega)]; simp
theorem seg_one (B a : Nat) : segN B a (a + 1) = if B.testBit a then 1 else 0 := by
  rw [segN, show a + 1 - a = 1 by omega]
  simp only [bitsFrom, List.append_nil]
  split <;> rfl
theorem fill_same (B a : Nat) (h : B.testBit a = true) : fillN B a (a + 1) = B := by
  apply Nat.eq_of_testBit_eq; intro j; rw [tb_fill]
  by_cases hj : j = a
  · subst hj; simp [h]
  · rw [decide_eq_false (by omega), Bool.or_false]
theorem wipe_same (B a : Nat) (h : B.testBit a = false) : wipeN B a (a + 1) = B := by
  apply Nat.eq_of_testBit_eq; intro j; rw [tb_wipe]
  by_cases hj : j = a
  · subst hj; simp [h]
  · rw [decide_eq_false (by omega)]; simp

end Go.Proofs.YtiekoidlibhoeaaDoor
