/-
  Plain facts: how many bits there are, when a range is filled or wiped; strip's answers at 65536 bits.
-/
import Derived.Test.YtiekoidlibhoeaaDoorBmPure
import Derived.Test.YtiekoidlibhoeaaDoorStripOne
namespace Go.Proofs.YtiekoidlibhoeaaDoor
set_option linter.unusedVariables false
set_option linter.unusedSimpArgs false

theorem seg_flip (B C k : Nat) (h : ∀ j, j ≠ k → C.testBit j = B.testBit j) : ∀ D, segN C 0 D + (if k < D ∧ B.testBit k = true then 1 else 0) = segN B 0 D + (if k < D ∧ C.testBit k = true then 1 else 0) := by
  intro D
  induction D with
  | zero => simp [seg_none]
  | succ D ih =>
    rw [seg_snoc, seg_snoc]
    by_cases hk : k = D
    · subst hk
      rw [if_neg (by omega), if_neg (by omega)] at ih
      cases hb : B.testBit k <;> cases hc : C.testBit k <;> simp <;> omega
    · rw [h D (fun e => hk e.symm)]
      have e : ∀ b : Bool, (k < D + 1 ∧ b = true) ↔ (k < D ∧ b = true) := fun b => by constructor <;> rintro ⟨h1, h2⟩ <;> exact ⟨by omega, h2⟩
      simp only [e]
      omega
theorem cnt_step (B : Nat) (s : Bool) (f D : Nat) : ∀ k, k ≤ D → segN (stepC B s f k).1 0 D + (if s then 0 else (stepC B s f k).2) = segN B 0 D + (if s then (stepC B s f k).2 else 0) := by
  intro k
  induction k with
  | zero => intro _; rw [stepC_start B s f 0 (Nat.zero_le _)]
  | succ k ih =>
    intro hk
    have ih := ih (by omega)
    by_cases hf : f ≤ k
    · have hc := stepC_cnt B s f k hf
      have hn := fun j => stepC_new B s f k j hf
      have hfl := seg_flip (stepC B s f k).1 (stepC B s f (k + 1)).1 k (fun j hj => by rw [hn, if_neg hj]) D
      rw [hn k, if_pos rfl, stepC_at] at hfl
      rw [hc]
      cases s <;> cases hb : B.testBit k <;> simp [hb, show k < D by omega] at hfl ih ⊢ <;> omega
    · rw [stepC_start B s f (k + 1) (by omega)]
theorem cnt_fill (B f k D : Nat) (h : k ≤ D) : segN (stepC B true f k).1 0 D = segN B 0 D + (stepC B true f k).2 := by simpa using cnt_step B true f D k h
theorem cnt_wipe (B f k D : Nat) (h : k ≤ D) : segN (stepC B false f k).1 0 D + (stepC B false f k).2 = segN B 0 D := by simpa using cnt_step B false f D k h

theorem runs_u (B k l : Nat) (hl2 : l < 2) (hl : l.testBit 0 = (decide (0 < k) && (wordN B (k - 1)).testBit 63)) :
    cntN (wordN B k &&& notN (2 * wordN B k % 18446744073709551616 ||| l)) = segN (runsN B) (64 * k) (64 * (k + 1)) := by
  rw [← word_seg]
  congr 1
  have hlt : 2 * wordN B k % 18446744073709551616 ||| l < 18446744073709551616 := or_lt _ _ (Nat.mod_lt _ (by decide)) (by omega)
  refine runs_word B k _ (fun j hj => ?_) (and_lt' _ _ (wordN_lt B k))
  rw [Nat.testBit_and, tb_notN _ hlt, Nat.testBit_or, decide_eq_true hj, Bool.true_and]
  congr 2
  rw [show (18446744073709551616 : Nat) = 2 ^ 64 by decide, Nat.testBit_mod_two_pow, tb_double, decide_eq_true hj, Bool.true_and]
  by_cases h0 : j = 0
  · subst h0; rw [if_pos rfl, hl]; simp
  · rw [if_neg h0, decide_eq_true (by omega : 0 < j), Bool.true_and]
    have : l.testBit j = false := Nat.testBit_lt_two_pow (Nat.lt_of_lt_of_le hl2 (by
      calc 2 = 2 ^ 1 := rfl
        _ ≤ 2 ^ j := Nat.pow_le_pow_right (by omega) (by omega)))
    rw [this, Bool.or_false]
theorem top_bit (x : Nat) (hx : x < 18446744073709551616) : x / 9223372036854775808 < 2 ∧ (x / 9223372036854775808).testBit 0 = x.testBit 63 := by
  refine ⟨by omega, ?_⟩
  rw [show (9223372036854775808 : Nat) = 2 ^ 63 by decide, Nat.testBit_div_two_pow]

/-! ### strip's answers at 65536 bits -/
theorem getB_nat (B v : Nat) (h : v < 65536) : getB 1024 B (v : Int) = B.testBit v := by
  unfold getB inB
  rw [decide_eq_true (by omega), Bool.true_and, Int.toNat_natCast]
theorem inB_nat (v : Nat) (h : v < 65536) : inB 1024 (v : Int) = true := by
  unfold inB; rw [decide_eq_true (by omega)]
theorem setB_nat (B v : Nat) (h : v < 65536) : setB 1024 B (v : Int) = (stepC B true v (v + 1)).1 := by
  unfold setB
  rw [inB_nat v h, if_pos rfl, Int.toNat_natCast]; rfl
theorem clrB_nat (B v : Nat) (h : v < 65536) : clrB 1024 B (v : Int) = (stepC B false v (v + 1)).1 := by
  unfold clrB
  rw [inB_nat v h, if_pos rfl, Int.toNat_natCast]; rfl
theorem fromN_nat (v : Nat) : fromN (v : Int) = v := by unfold fromN; omega
theorem toN_nat (v D : Nat) (h : v ≤ D) : toN (v : Int) D = v := by unfold toN; omega
theorem seg_all (B D : Nat) (h : D = 64 * 1024) : segN B 0 (64 * 1024) = segN B 0 D := by rw [h]
theorem big_same {B C : Nat} (hB : B < 2 ^ (64 * 1024)) (hC : C < 2 ^ (64 * 1024)) (h : ∀ j, j < 65536 → B.testBit j = C.testBit j) : B = C := by
  apply Nat.eq_of_testBit_eq
  intro j
  by_cases hj : j < 64 * 1024
  · exact h j hj
  · rw [big_tb hB (by omega), big_tb hC (by omega)]

end Go.Proofs.YtiekoidlibhoeaaDoor
