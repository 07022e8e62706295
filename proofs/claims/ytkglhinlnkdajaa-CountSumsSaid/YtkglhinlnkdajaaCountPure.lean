/-
  Plain facts on scripts of acts (lists of numbers): what package count's references come to. No memory here.
-/
import Derived.Test.YtkglhinlnkdajaaPCountPlaysx1
namespace Go.Proofs.Ytkglhinlnkdajaa
open Go.RowKit Go.Proofs.YtkglhinlnkdajaaW.PrintWords Go.Proofs.Ytkglhinlnkdajaa.PCountPlays

theorem wrap_succ {i n : Nat} (h : i < n) (hn : n ≤ 140737488351232) : wrap64 ((i : Int) + 1) = ((i + 1 : Nat) : Int) := by
  unfold wrap64; omega

theorem rd_at (l : List Int) (i : Nat) (h : i < l.length) : rd l (i : Int) = l[i] := by
  simp [rd, List.getD, h]

theorem drop_at (l : List Int) (i : Nat) (h : i < l.length) : l.drop i = l[i] :: l.drop (i + 1) := List.drop_eq_getElem_cons h

/-- Bytes: the first ones. -/
theorem bytes_l0 (m : Nat) (l : List Int) (hl : l.length ≤ 140737488351232) : ∀ d k (i : Nat) acc, i + d = l.length → d < k → acc.length ≤ i →
    stepstoneref01_Bytes.l0 k (m : Int) acc l (l.length : Int) (i : Int) = some (acc ++ (l.drop i).take (m - i)) := by
  intro d
  induction d with
  | zero =>
    intro k i acc h hk ha
    obtain ⟨k, rfl⟩ : ∃ q, k = q + 1 := ⟨k - 1, by omega⟩
    simp only [stepstoneref01_Bytes.l0]
    rw [if_neg (by omega), List.drop_eq_nil_of_le (by omega)]; simp
  | succ d ih =>
    intro k i acc h hk ha
    obtain ⟨k, rfl⟩ : ∃ q, k = q + 1 := ⟨k - 1, by omega⟩
    have hi : i < l.length := by omega
    simp only [stepstoneref01_Bytes.l0]
    rw [if_pos (by omega), if_pos (by omega), if_pos (by omega), wrap_succ hi hl, rd_at l i hi]
    by_cases hm : i < m
    · rw [if_pos (by omega), if_pos (by omega), ih k (i + 1) _ (by omega) (by omega) (by simp; omega), drop_at l i hi,
        show m - i = (m - (i + 1)) + 1 by omega, List.take_succ_cons, List.append_assoc]
      rfl
    · rw [if_neg (by omega), ih k (i + 1) _ (by omega) (by omega) (by omega), show m - i = 0 by omega, show m - (i + 1) = 0 by omega]
      simp

theorem bytes_f (m : Nat) (l : List Int) (hl : l.length ≤ 140737488351232) : stepstoneref01_Bytes.f (l.length + 1) l (m : Int) = some (l.take m) := by
  have := bytes_l0 m l hl l.length (l.length + 1) 0 [] (by omega) (by omega) (by simp)
  simpa [stepstoneref01_Bytes.f] using this

/-- What an act does: 0 Start, 1 Read, 2 Call. -/
def kindOf (a : Int) : Int := Int.tmod a 3

def tkStep (n : Int) (a : Int) : Int := if kindOf a = 0 then 0 else n + 1
def tk (l : List Int) : Int := l.foldl tkStep 0
def cntStep (k : Int) (n : Int) (a : Int) : Int := if kindOf a = k then n + 1 else n
def cnt (l : List Int) (k : Int) : Int := l.foldl (cntStep k) 0
def pkAt (l : List Int) : Nat → Int
  | 0 => 0
  | i + 1 => max (pkAt l i) (tk (l.take (i + 1)))
def pk (l : List Int) : Int := pkAt l l.length

theorem tk_snoc (l : List Int) (a : Int) : tk (l ++ [a]) = tkStep (tk l) a := by simp [tk, List.foldl_append]
theorem cnt_snoc (l : List Int) (a k : Int) : cnt (l ++ [a]) k = cntStep k (cnt l k) a := by simp [cnt, List.foldl_append]
theorem cnt_nil (k : Int) : cnt [] k = 0 := rfl

theorem tk_bd (l : List Int) : 0 ≤ tk l ∧ tk l ≤ l.length := by
  suffices h : ∀ l : List Int, 0 ≤ tk l.reverse ∧ tk l.reverse ≤ l.length by
    have := h l.reverse; simpa using this
  intro l
  induction l with
  | nil => simp [tk]
  | cons a l ih =>
    rw [List.reverse_cons, tk_snoc]; simp only [tkStep, List.length_cons]; split <;> omega
theorem cnt_bd (l : List Int) (k : Int) : 0 ≤ cnt l k ∧ cnt l k ≤ l.length := by
  suffices h : ∀ l : List Int, 0 ≤ cnt l.reverse k ∧ cnt l.reverse k ≤ l.length by
    have := h l.reverse; simpa using this
  intro l
  induction l with
  | nil => simp [cnt]
  | cons a l ih =>
    rw [List.reverse_cons, cnt_snoc]; simp only [cntStep, List.length_cons]; split <;> omega

theorem taken_l0 (l : List Int) (hl : l.length ≤ 140737488351232) : ∀ d k (i : Nat), i + d = l.length → d < k →
    stepstoneref03_Taken.l0 k (tk (l.take i)) l (l.length : Int) (i : Int) = some (tk l) := by
  intro d
  induction d with
  | zero =>
    intro k i h hk
    obtain ⟨k, rfl⟩ : ∃ q, k = q + 1 := ⟨k - 1, by omega⟩
    simp only [stepstoneref03_Taken.l0]
    rw [if_neg (by omega), List.take_of_length_le (by omega)]
  | succ d ih =>
    intro k i h hk
    obtain ⟨k, rfl⟩ : ∃ q, k = q + 1 := ⟨k - 1, by omega⟩
    have hi : i < l.length := by omega
    have hs : l.take (i + 1) = l.take i ++ [l[i]] := by rw [List.take_succ_eq_append_getElem hi]
    have hb := tk_bd (l.take i)
    have hlen : (l.take i).length ≤ i := List.length_take_le _ _
    have ih' := ih k (i + 1) (by omega) (by omega)
    rw [hs, tk_snoc] at ih'
    simp only [stepstoneref03_Taken.l0]
    rw [if_pos (by omega), if_pos (by omega), if_pos (by omega), wrap_succ hi hl, rd_at l i hi]
    by_cases hc : Int.tmod l[i] 3 = 0
    · rw [if_pos hc]; simpa [tkStep, kindOf, hc] using ih'
    · rw [if_neg hc, show wrap64 (tk (l.take i) + 1) = tk (l.take i) + 1 by unfold wrap64; omega]; simpa [tkStep, kindOf, hc] using ih'

theorem taken_f (l : List Int) (hl : l.length ≤ 140737488351232) (k : Nat) (hk : l.length < k) : stepstoneref03_Taken.f k l = some (tk l) := by
  have := taken_l0 l hl l.length k 0 (by omega) (by omega)
  simpa [stepstoneref03_Taken.f, tk] using this

theorem count_l0 (c : Int) (l : List Int) (hl : l.length ≤ 140737488351232) : ∀ d k (i : Nat), i + d = l.length → d < k →
    stepstoneref03_Count.l0 k c (cnt (l.take i) c) l (l.length : Int) (i : Int) = some (cnt l c) := by
  intro d
  induction d with
  | zero =>
    intro k i h hk
    obtain ⟨k, rfl⟩ : ∃ q, k = q + 1 := ⟨k - 1, by omega⟩
    simp only [stepstoneref03_Count.l0]
    rw [if_neg (by omega), List.take_of_length_le (by omega)]
  | succ d ih =>
    intro k i h hk
    obtain ⟨k, rfl⟩ : ∃ q, k = q + 1 := ⟨k - 1, by omega⟩
    have hi : i < l.length := by omega
    have hs : l.take (i + 1) = l.take i ++ [l[i]] := by rw [List.take_succ_eq_append_getElem hi]
    have hb := cnt_bd (l.take i) c
    have hlen : (l.take i).length ≤ i := List.length_take_le _ _
    have ih' := ih k (i + 1) (by omega) (by omega)
    rw [hs, cnt_snoc] at ih'
    simp only [stepstoneref03_Count.l0]
    rw [if_pos (by omega), if_pos (by omega), if_pos (by omega), wrap_succ hi hl, rd_at l i hi]
    by_cases hc : Int.tmod l[i] 3 = c
    · rw [if_pos hc, show wrap64 (cnt (l.take i) c + 1) = cnt (l.take i) c + 1 by unfold wrap64; omega]; simpa [cntStep, kindOf, hc] using ih'
    · rw [if_neg hc]; simpa [cntStep, kindOf, hc] using ih'

theorem count_f (c : Int) (l : List Int) (hl : l.length ≤ 140737488351232) : stepstoneref03_Count.f (l.length + 1) l c = some (cnt l c) := by
  have := count_l0 c l hl l.length (l.length + 1) 0 (by omega) (by omega)
  simpa [stepstoneref03_Count.f, cnt] using this

theorem peak_l0 (l : List Int) (hl : l.length ≤ 140737488351232) : ∀ d k (i : Nat), i + d = l.length → l.length + 1 + d < k →
    stepstoneref03_Peak.l0 k l (pkAt l i) (l.length : Int) (i : Int) = some (pk l) := by
  intro d
  induction d with
  | zero =>
    intro k i h hk
    obtain ⟨k, rfl⟩ : ∃ q, k = q + 1 := ⟨k - 1, by omega⟩
    simp only [stepstoneref03_Peak.l0]
    rw [if_neg (by omega), show i = l.length by omega]; rfl
  | succ d ih =>
    intro k i h hk
    obtain ⟨k, rfl⟩ : ∃ q, k = q + 1 := ⟨k - 1, by omega⟩
    have hi : i < l.length := by omega
    have ih' := ih k (i + 1) (by omega) (by omega)
    simp only [stepstoneref03_Peak.l0]
    rw [if_pos (by omega), wrap_succ hi hl, if_pos (by omega), if_pos (by omega)]
    rw [Int.toNat_natCast, taken_f _ (by simp; omega) k (by simp; omega), Option.bind_some]
    have : mx (pkAt l i) (tk (l.take (i + 1))) = pkAt l (i + 1) := by
      simp only [pkAt, mx]; rw [Int.max_def]; split <;> split <;> omega
    rw [this]; exact ih'

theorem peak_f (l : List Int) (hl : l.length ≤ 140737488351232) : stepstoneref03_Peak.f (2 * l.length + 2) l = some (pk l) := by
  have := peak_l0 l hl l.length (2 * l.length + 2) 0 (by omega) (by omega)
  simpa [stepstoneref03_Peak.f, pkAt] using this

theorem pk_snoc (l : List Int) (a : Int) : pk (l ++ [a]) = max (pk l) (tk (l ++ [a])) := by
  have h : ∀ i, i ≤ l.length → pkAt (l ++ [a]) i = pkAt l i := by
    intro i hi
    induction i with
    | zero => rfl
    | succ i ih => simp only [pkAt]; rw [ih (by omega), List.take_append_of_le_length (by omega)]
  simp only [pk, List.length_append, List.length_singleton, pkAt]
  rw [h _ (Nat.le_refl _), List.take_of_length_le (by simp)]
theorem pk_nil : pk [] = 0 := rfl

theorem pk_bd (l : List Int) : 0 ≤ pk l ∧ pk l ≤ l.length := by
  suffices h : ∀ l : List Int, 0 ≤ pk l.reverse ∧ pk l.reverse ≤ l.length by
    have := h l.reverse; simpa using this
  intro l
  induction l with
  | nil => simp [pk, pkAt]
  | cons a l ih =>
    rw [List.reverse_cons, pk_snoc]
    have := tk_bd (l.reverse ++ [a])
    simp only [List.length_append, List.length_reverse, List.length_cons, List.length_nil] at *
    omega
theorem tk_le_pk (l : List Int) : tk l ≤ pk l := by
  suffices h : ∀ l : List Int, tk l.reverse ≤ pk l.reverse by
    have := h l.reverse; simpa using this
  intro l
  cases l with
  | nil => simp [tk, pk, pkAt]
  | cons a l => rw [List.reverse_cons, pk_snoc]; omega

theorem act0 {L : List Int} {x : Int} (h : kindOf x = 0) : cnt (L ++ [x]) 1 = cnt L 1 ∧ cnt (L ++ [x]) 2 = cnt L 2 ∧ tk (L ++ [x]) = 0 ∧ pk (L ++ [x]) = pk L ∧ cnt (L ++ [x]) 0 = cnt L 0 + 1 := by
  have hp := pk_bd L
  have h1 : tk (L ++ [x]) = 0 := by rw [tk_snoc]; simp [tkStep, h]
  refine ⟨?_, ?_, h1, ?_, ?_⟩
  · rw [cnt_snoc]; simp [cntStep, h]
  · rw [cnt_snoc]; simp [cntStep, h]
  · rw [pk_snoc, h1]; omega
  · rw [cnt_snoc]; simp [cntStep, h]
theorem act1 {L : List Int} {x : Int} (h : kindOf x = 1) : cnt (L ++ [x]) 1 = cnt L 1 + 1 ∧ cnt (L ++ [x]) 2 = cnt L 2 ∧ tk (L ++ [x]) = tk L + 1 ∧ pk (L ++ [x]) = max (pk L) (tk L + 1) ∧ cnt (L ++ [x]) 0 = cnt L 0 := by
  have h1 : tk (L ++ [x]) = tk L + 1 := by rw [tk_snoc]; simp [tkStep, h]
  refine ⟨?_, ?_, h1, ?_, ?_⟩
  · rw [cnt_snoc]; simp [cntStep, h]
  · rw [cnt_snoc]; simp [cntStep, h]
  · rw [pk_snoc, h1]
  · rw [cnt_snoc]; simp [cntStep, h]
theorem act2 {L : List Int} {x : Int} (h : kindOf x = 2) : cnt (L ++ [x]) 1 = cnt L 1 ∧ cnt (L ++ [x]) 2 = cnt L 2 + 1 ∧ tk (L ++ [x]) = tk L + 1 ∧ pk (L ++ [x]) = max (pk L) (tk L + 1) ∧ cnt (L ++ [x]) 0 = cnt L 0 := by
  have h1 : tk (L ++ [x]) = tk L + 1 := by rw [tk_snoc]; simp [tkStep, h]
  refine ⟨?_, ?_, h1, ?_, ?_⟩
  · rw [cnt_snoc]; simp [cntStep, h]
  · rw [cnt_snoc]; simp [cntStep, h]
  · rw [pk_snoc, h1]
  · rw [cnt_snoc]; simp [cntStep, h]

end Go.Proofs.Ytkglhinlnkdajaa
