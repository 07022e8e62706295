/-
  Plain functions on lists of numbers, as the references (stepstoneref01) have them. No memory here.
-/
import Derived.Test.YtnhdcefoigmjpaaDoorWWords
import Derived.Test.YtnhdcefoigmjpaaDoorWMore
import Derived.Test.YtnhdcefoigmjpaaDoorFr
namespace Go.Proofs.YtnhdcefoigmjpaaDoor
open Go.RowKit Go.Proofs.YtnhdcefoigmjpaaDoorW.PrintWords Go.Proofs.YtnhdcefoigmjpaaDoorW.PrintMore
set_option linter.unusedVariables false
set_option linter.unusedSimpArgs false

theorem wrap_succ' {i n : Nat} (h : i < n) (hn : n ≤ 140737488351232) : wrap64 ((i : Int) + 1) = ((i + 1 : Nat) : Int) := by
  unfold wrap64; omega
theorem drop_get (l : List Int) (i : Nat) (h : i < l.length) : l.drop i = l[i] :: l.drop (i + 1) := List.drop_eq_getElem_cons h
theorem at_nat {k : IntKind} {w : World} {A : Option Addr} {l : List Int} (hr : Kd.C (Kd.int k) w A l.length l) {i : Nat} (h : i < l.length) : ∃ ad, A = some ad ∧ w.cell? (ad.add i) = some (.int k l[i]) := by
  obtain ⟨ad, hA, hc⟩ := Kd.at_int hr (i : Int) (by omega) (by omega)
  refine ⟨ad, hA, ?_⟩
  rw [Int.toNat_natCast] at hc
  simpa [rd, List.getD, h] using hc

theorem take_step_lt {l : List Int} {k m : Nat} (h : k < l.length) (hm : k < m) : (l.take (k + 1)).take m = (l.take k).take m ++ [l[k]] := by
  rw [List.take_take, List.take_take, show min m (k + 1) = k + 1 by omega, show min m k = k by omega, List.take_succ_eq_append_getElem h]
theorem take_step_ge {l : List Int} {k m : Nat} (hm : m ≤ k) : (l.take (k + 1)).take m = (l.take k).take m := by
  rw [List.take_take, List.take_take, show min m (k + 1) = m by omega, show min m k = m by omega]
def hasL (l : List Int) (n : Int) : Bool := decide (n ∈ l)
def nextL : List Int → Int → Int
  | [], _ => -1
  | x :: r, n => if n ≤ x then x else nextL r n
def prevF : List Int → Int → Int → Int
  | [], _, b => b
  | x :: r, n, b => prevF r n (if x ≤ n then x else b)
def prevL (l : List Int) (n : Int) : Int := prevF l n (-1)
def rankL (l : List Int) (n : Int) : Nat := (l.filter (fun x => decide (x < n))).length
def selectL (l : List Int) (k : Int) : Int := if k < 0 then -1 else l.getD k.toNat (-1)
def dropL (l : List Int) (n : Int) : List Int := l.filter (fun x => decide (x ≠ n))
def addL : List Int → Int → List Int
  | [], n => [n]
  | x :: r, n => if n ≤ x then n :: dropL (x :: r) n else x :: addL r n
def clampL (n m : Int) : Int := max (min n m) 0

theorem hasL_cons (x : Int) (r : List Int) (n : Int) : hasL (x :: r) n = (decide (n = x) || hasL r n) := by simp [hasL]
theorem rankL_snoc (l : List Int) (x n : Int) : rankL (l ++ [x]) n = rankL l n + if x < n then 1 else 0 := by
  simp only [rankL, List.filter_append, List.length_append, List.filter_cons, List.filter_nil]
  by_cases h : x < n <;> simp [h]
theorem rankL_le (l : List Int) (n : Int) : rankL l n ≤ l.length := List.length_filter_le _ _
theorem dropL_snoc (l : List Int) (x n : Int) : dropL (l ++ [x]) n = dropL l n ++ if x = n then [] else [x] := by
  simp only [dropL, List.filter_append, List.filter_cons, List.filter_nil]
  by_cases h : x = n <;> simp [h]
theorem dropL_le (l : List Int) (n : Int) : (dropL l n).length ≤ l.length := List.length_filter_le _ _
theorem addL_len (l : List Int) (n : Int) : (addL l n).length ≤ l.length + 1 := by
  induction l with
  | nil => simp [addL]
  | cons x r ih =>
    simp only [addL]
    split
    · have := dropL_le (x :: r) n; simp only [List.length_cons] at *; omega
    · simp only [List.length_cons]; omega

/-- The walk of Add: what is made, whether it is done, and what is to come. -/
def addF : List Int → Int → List Int → Bool → List Int
  | [], n, acc, done => if done then acc else acc ++ [n]
  | x :: r, n, acc, true => addF r n (if x = n then acc else acc ++ [x]) true
  | x :: r, n, acc, false => if n ≤ x then addF r n (if x = n then acc ++ [n] else acc ++ [n] ++ [x]) true else addF r n (acc ++ [x]) false
theorem addF_true (l : List Int) (n : Int) : ∀ acc, addF l n acc true = acc ++ dropL l n := by
  induction l with
  | nil => intro acc; simp [addF, dropL]
  | cons x r ih =>
    intro acc
    simp only [addF]
    rw [ih]
    by_cases h : x = n <;> simp [h, dropL]
theorem addF_false (l : List Int) (n : Int) : ∀ acc, addF l n acc false = acc ++ addL l n := by
  induction l with
  | nil => intro acc; simp [addF, addL]
  | cons x r ih =>
    intro acc
    simp only [addF, addL]
    by_cases h : n ≤ x
    · rw [if_pos h, if_pos h, addF_true]
      by_cases h2 : x = n <;> simp [h2, dropL]
    · rw [if_neg h, if_neg h, ih]; simp

/-- The set bits of a word, rising. -/
def bitsFrom (w : Nat) : Nat → Nat → List Int
  | 0, _ => []
  | d + 1, i => (if w.testBit i then [(i : Int)] else []) ++ bitsFrom w d (i + 1)
def listW (w : Nat) : List Int := bitsFrom w 64 0
theorem bitsFrom_len (w d i : Nat) : (bitsFrom w d i).length ≤ d := by
  induction d generalizing i with
  | zero => simp [bitsFrom]
  | succ d ih => simp only [bitsFrom, List.length_append]; have := ih (i + 1); split <;> simp <;> omega
theorem mem_bitsFrom (w d i : Nat) (n : Int) : n ∈ bitsFrom w d i ↔ ∃ j : Nat, n = j ∧ i ≤ j ∧ j < i + d ∧ w.testBit j = true := by
  induction d generalizing i with
  | zero => simp [bitsFrom]; intros; omega
  | succ d ih =>
    simp only [bitsFrom, List.mem_append, ih]
    constructor
    · rintro (h | ⟨j, h1, h2, h3, h4⟩)
      · by_cases hb : w.testBit i
        · rw [if_pos hb] at h; simp at h; exact ⟨i, h, by omega, by omega, hb⟩
        · rw [if_neg hb] at h; cases h
      · exact ⟨j, h1, by omega, by omega, h4⟩
    · rintro ⟨j, h1, h2, h3, h4⟩
      by_cases hj : j = i
      · subst hj; left; rw [if_pos h4]; simp [h1]
      · right; exact ⟨j, h1, by omega, by omega, h4⟩

end Go.Proofs.YtnhdcefoigmjpaaDoor
