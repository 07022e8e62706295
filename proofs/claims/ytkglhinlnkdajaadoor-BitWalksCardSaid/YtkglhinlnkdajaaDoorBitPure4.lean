/-
  Plain facts: a word without its least bit, without its greatest. No memory here.
-/
import Derived.Test.YtkglhinlnkdajaaDoorBitPure2
namespace Go.Proofs.YtkglhinlnkdajaaDoor
open Go.RowKit Go.Proofs.YtkglhinlnkdajaaDoorW.PrintWords Go.Proofs.YtkglhinlnkdajaaDoorW.PrintMore
set_option linter.unusedVariables false
set_option linter.unusedSimpArgs false

theorem listW_ne {v : Nat} (hv : v < 18446744073709551616) (h0 : v ≠ 0) : listW v ≠ [] := by
  intro h
  apply h0
  apply Nat.eq_of_testBit_eq
  intro j
  rw [Nat.zero_testBit]
  cases hb : v.testBit j with
  | false => rfl
  | true =>
    have hj : j < 64 := by
      rcases Nat.lt_or_ge j 64 with h | h
      · exact h
      · rw [tb_high hv h] at hb; cases hb
    have := (mem_listW v j).2 ⟨by omega, by omega, by simpa using hb⟩
    rw [h] at this; cases this
theorem listW_zero : listW 0 = [] := by decide
theorem clr_low {v k : Nat} (hv : v < 18446744073709551616) (hk : v.testBit k = true) (hl : ∀ j, j < k → v.testBit j = false) : v &&& (v - 1) = clrN v k := by
  have hk64 : k < 64 := by
    rcases Nat.lt_or_ge k 64 with h | h
    · exact h
    · rw [tb_high hv h] at hk; cases hk
  have hm : v % 2 ^ (k + 1) = 2 ^ k := by
    apply Nat.eq_of_testBit_eq
    intro j
    rw [Nat.testBit_mod_two_pow, Nat.testBit_two_pow]
    by_cases hj : j < k
    · rw [hl j hj]; simp; omega
    · by_cases hj2 : j = k
      · subst hj2; simp [hk]
      · rw [decide_eq_false (by omega : ¬ j < k + 1)]; simp; omega
  have hd := Nat.div_add_mod v (2 ^ (k + 1))
  rw [hm] at hd
  have hp : 0 < 2 ^ k := Nat.two_pow_pos k
  have h2 : 2 ^ k - 1 < 2 ^ (k + 1) := by rw [Nat.pow_succ]; omega
  have h3 : 2 ^ k < 2 ^ (k + 1) := by rw [Nat.pow_succ]; omega
  have hv1 : v - 1 = 2 ^ (k + 1) * (v / 2 ^ (k + 1)) + (2 ^ k - 1) := by omega
  apply Nat.eq_of_testBit_eq
  intro j
  rw [clrN, Nat.testBit_and, Nat.testBit_and, tb_notN _ (oneN_lt _), tb_oneN]
  by_cases hj : j < k
  · rw [hl j hj]; simp
  · by_cases hj2 : j = k
    · subst hj2
      rw [hv1, Nat.testBit_two_pow_mul_add _ h2, if_pos (by omega), Nat.testBit_two_pow_sub_one]
      simp
    · rw [hv1, Nat.testBit_two_pow_mul_add _ h2, if_neg (by omega), Nat.testBit_div_two_pow]
      rw [show j - (k + 1) + (k + 1) = j by omega]
      cases hb : v.testBit j with
      | false => rfl
      | true =>
        have hj64 : j < 64 := by
          rcases Nat.lt_or_ge j 64 with h | h
          · exact h
          · rw [tb_high hv h] at hb; cases hb
        simp [hj64]; omega
/-- The least bit comes first, what is left is the word without it. -/
theorem rise_eq {v : Nat} (hv : v < 18446744073709551616) (h0 : v ≠ 0) : listW v = lowN v :: listW (v &&& (v - 1)) := by
  have hs := listW_sorted v
  have hm := mem_listW v
  unfold lowN
  cases hl : listW v with
  | nil => exact absurd hl (listW_ne hv h0)
  | cons a r =>
    rw [hl] at hs hm
    have ha := (hm a).1 List.mem_cons_self
    have e : v &&& (v - 1) = clrN v a := by
      have := clr_low (k := a.toNat) hv ha.2.2 (fun j hj => by
        cases hb : v.testBit j with
        | false => rfl
        | true =>
          have h1 := (hm (j : Int)).2 ⟨by omega, by omega, by simpa using hb⟩
          rcases List.mem_cons.1 h1 with h | h
          · omega
          · have := (List.pairwise_cons.1 hs).1 _ h; omega)
      rw [this, show ((a.toNat : Nat) : Int) = a by omega]
    rw [e, list_clr, hl]
    show a :: r = a :: dropL (a :: r) a
    congr 1
    unfold dropL
    rw [List.filter_cons, if_neg (by simp), List.filter_eq_self.2]
    intro x hx
    have := (List.pairwise_cons.1 hs).1 _ hx
    simp; omega
/-- The greatest bit comes last. -/
theorem fall_eq {v : Nat} (hv : v < 18446744073709551616) (h0 : v ≠ 0) : listW v = listW (clrN v (highN v)) ++ [highN v] := by
  have hs := listW_sorted v
  rw [list_clr]
  unfold highN
  have hne := listW_ne hv h0
  have hd := List.dropLast_concat_getLast hne
  have hlast : (listW v).getLastD (-1) = (listW v).getLast hne := by
    rw [List.getLastD_eq_getLast?, List.getLast?_eq_some_getLast hne]; rfl
  rw [hlast]
  generalize (listW v).getLast hne = k at *
  generalize (listW v).dropLast = r at *
  rw [← hd] at hs ⊢
  congr 1
  unfold dropL
  rw [List.filter_append, List.filter_eq_self.2]
  · simp
  · intro x hx
    have := (List.pairwise_append.1 hs).2.2 x hx k (by simp)
    simp; omega
theorem rise_lt {v : Nat} (hv : v < 18446744073709551616) : v &&& (v - 1) < 18446744073709551616 := and_lt' _ _ hv
theorem rise_low {v : Nat} (hv : v < 18446744073709551616) (h0 : v ≠ 0) : 0 ≤ lowN v ∧ lowN v < 64 := by
  have h := rise_eq hv h0
  have := (mem_listW v (lowN v)).1 (by rw [h]; exact List.mem_cons_self)
  omega
theorem fall_high {v : Nat} (hv : v < 18446744073709551616) (h0 : v ≠ 0) : 0 ≤ highN v ∧ highN v < 64 := by
  have h := fall_eq hv h0
  have := (mem_listW v (highN v)).1 (by rw [h]; simp)
  omega

end Go.Proofs.YtkglhinlnkdajaaDoor
