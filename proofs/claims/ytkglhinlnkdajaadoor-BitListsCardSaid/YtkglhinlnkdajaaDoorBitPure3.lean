/-
  Plain facts: words made of lists, what one or all of some words have. And two rows of numbers that are made side by side.
-/
import Derived.Test.YtkglhinlnkdajaaDoorBit
import Derived.Test.YtkglhinlnkdajaaDoorBitPure2
namespace Go.Proofs.YtkglhinlnkdajaaDoor
open Go.RowKit Go.Proofs.YtkglhinlnkdajaaDoorW.PrintWords Go.Proofs.YtkglhinlnkdajaaDoorW.PrintMore
set_option linter.unusedVariables false
set_option linter.unusedSimpArgs false

def inW (i : Int) : Bool := decide (0 ≤ i ∧ i < 64)
def thereL (l : List Int) : List Int := l.foldl (fun t i => if 0 ≤ i ∧ i < 64 then addL t i else t) []
theorem thereL_snoc (l : List Int) (i : Int) : thereL (l ++ [i]) = if 0 ≤ i ∧ i < 64 then addL (thereL l) i else thereL l := by simp [thereL, List.foldl_append]
theorem make_there (l : List Int) : listW (makeN l) = thereL l := by
  suffices h : ∀ l : List Int, listW (makeN l.reverse) = thereL l.reverse by
    have := h l.reverse; simpa using this
  intro l
  induction l with
  | nil => rfl
  | cons i l ih =>
    rw [List.reverse_cons, makeN_snoc, thereL_snoc, ← ih]
    by_cases h : 0 ≤ i ∧ i < 64
    · rw [if_pos h]; exact list_set _ i h.1 h.2
    · rw [if_neg h]
      show listW (setN (makeN l.reverse) i) = _
      rw [set_out _ _ h]
theorem makeN_lt (l : List Int) : makeN l < 18446744073709551616 := by
  suffices h : ∀ l : List Int, makeN l.reverse < 18446744073709551616 by
    have := h l.reverse; simpa using this
  intro l
  induction l with
  | nil => decide
  | cons i l ih => rw [List.reverse_cons, makeN_snoc]; exact or_lt _ _ ih (oneN_lt i)
theorem thereL_len (l : List Int) : (thereL l).length ≤ 64 := by rw [← make_there]; exact listW_len _

/-- How many of some words have a bit. -/
def hasN (ws : List Int) (i : Nat) : Nat := (ws.filter (fun x => x.toNat.testBit i)).length
theorem hasN_snoc (ws : List Int) (x : Int) (i : Nat) : hasN (ws ++ [x]) i = hasN ws i + if x.toNat.testBit i then 1 else 0 := by
  simp only [hasN, List.filter_append, List.length_append, List.filter_cons, List.filter_nil]
  by_cases h : x.toNat.testBit i <;> simp [h]
theorem hasN_le (ws : List Int) (i : Nat) : hasN ws i ≤ ws.length := List.length_filter_le _ _
theorem anyN_tb (ws : List Int) (i : Nat) : (anyN ws).testBit i = decide (0 < hasN ws i) := by
  suffices h : ∀ ws : List Int, (anyN ws.reverse).testBit i = decide (0 < hasN ws.reverse i) by
    have := h ws.reverse; simpa using this
  intro ws
  induction ws with
  | nil => simp [anyN, hasN]
  | cons x ws ih =>
    rw [List.reverse_cons, anyN_snoc, Nat.testBit_or, ih, hasN_snoc]
    cases x.toNat.testBit i <;> simp
theorem allN_tb (ws : List Int) (i : Nat) (hi : i < 64) : (allN ws).testBit i = decide (hasN ws i = ws.length) := by
  suffices h : ∀ ws : List Int, (allN ws.reverse).testBit i = decide (hasN ws.reverse i = ws.length) by
    have := h ws.reverse; simpa using this
  intro ws
  induction ws with
  | nil =>
    show Nat.testBit 18446744073709551615 i = _
    rw [show (18446744073709551615 : Nat) = 2 ^ 64 - 1 by decide, Nat.testBit_two_pow_sub_one]
    simp [hasN, hi]
  | cons x ws ih =>
    have hle := hasN_le ws.reverse i
    rw [List.length_reverse] at hle
    rw [List.reverse_cons, allN_snoc, Nat.testBit_and, ih, hasN_snoc, List.length_cons]
    cases x.toNat.testBit i with
    | true => simp
    | false => simp; omega
theorem anyN_lt (ws : List Int) (hb : ∀ a, a ∈ ws → 0 ≤ a ∧ a ≤ 18446744073709551615) : anyN ws < 18446744073709551616 := by
  suffices h : ∀ ws : List Int, (∀ a, a ∈ ws → 0 ≤ a ∧ a ≤ 18446744073709551615) → anyN ws.reverse < 18446744073709551616 by
    have := h ws.reverse (fun a ha => hb a (by simpa using ha)); simpa using this
  intro ws
  induction ws with
  | nil => intro _; decide
  | cons x ws ih =>
    intro h
    rw [List.reverse_cons, anyN_snoc]
    have := h x List.mem_cons_self
    exact or_lt _ _ (ih (fun a ha => h a (List.mem_cons_of_mem _ ha))) (by omega)
theorem allN_lt (ws : List Int) : allN ws < 18446744073709551616 := by
  suffices h : ∀ ws : List Int, allN ws.reverse < 18446744073709551616 by
    have := h ws.reverse; simpa using this
  intro ws
  induction ws with
  | nil => decide
  | cons x ws ih => rw [List.reverse_cons, allN_snoc]; exact and_lt' _ _ ih
theorem has_word (x : Nat) (i : Nat) (hi : i < 64) : hasL (listW x) (i : Int) = x.testBit i := by
  unfold hasL
  by_cases h : (i : Int) ∈ listW x
  · rw [decide_eq_true h]; have := ((mem_listW x _).1 h).2.2; simpa using this.symm
  · rw [decide_eq_false h]
    cases k : x.testBit i with
    | false => rfl
    | true => exact absurd ((mem_listW x _).2 ⟨by omega, by omega, by simpa using k⟩) h

/-! ### two rows side by side -/
theorem R_kept {k : IntKind} {e : Nat} {W W1 : World} {base : Nat} {v : Value} {xs : List Int} {row : Option Nat} (h : Kd.R (Kd.int k) e W base (fun _ => True) v xs) (hg : W.grownBy W1 row) (hne : ∀ q, v.ownBlock = some q → row ≠ some q) :
    Kd.R (Kd.int k) e W1 base (fun _ => True) v xs := by
  refine Kd.R_of_own (World.ownsRow.kept (Kd.own_of_R h) hg ?_) (fun _ _ => trivial)
  cases hv : v.ownBlock with
  | none => exact .inl rfl
  | some q => exact .inr (fun e => hne q hv e.symm)
theorem R_lt {k : IntKind} {e : Nat} {W : World} {base : Nat} {v : Value} {xs : List Int} (h : Kd.R (Kd.int k) e W base (fun _ => True) v xs) : ∀ q, v.ownBlock = some q → base ≤ q ∧ q < W.heap.size := World.ownsRow.lt (Kd.own_of_R h)
def Sep (v u : Value) : Prop := ∀ q, v.ownBlock = some q → u.ownBlock ≠ some q
theorem Sep.symm {v u : Value} (h : Sep v u) : Sep u v := fun q hq hv => h q hv hq
theorem Sep.nil (u : Value) : Sep (.slice none 0 0) u := fun q hq => by simp [Value.ownBlock] at hq
/-- Behind an append to v: u is as it was, and they are apart. -/
theorem Sep.grown {k : IntKind} {e : Nat} {W W1 : World} {base : Nat} {v v1 u : Value} {xs : List Int} (hs : Sep v u) (hu : Kd.R (Kd.int k) e W base (fun _ => True) u xs) (hg : W.grownBy W1 v.ownBlock) (hat : v1.ownBlock = v.ownBlock ∨ ∃ b, v1.ownBlock = some b ∧ W.heap.size ≤ b) :
    Kd.R (Kd.int k) e W1 base (fun _ => True) u xs ∧ Sep v1 u := by
  refine ⟨R_kept hu hg (fun q hq hv => hs q hv hq), fun q hq hq2 => ?_⟩
  rcases hat with h | ⟨b, h, hb⟩
  · exact hs q (by rw [← h]; exact hq) hq2
  · rw [h] at hq
    injection hq with hq
    have := R_lt hu q hq2
    omega

end Go.Proofs.YtkglhinlnkdajaaDoor
