/-
  The contracts of package bit's plain functions over this translation.
-/
import Derived.Test.YtnhdcefoigmjpaaDoorBits
import Derived.Test.YtnhdcefoigmjpaaDoorPop
import Derived.Test.YtnhdcefoigmjpaaDoorRef
import Derived.Laws.BitsAllLaws
import Derived.RegionTactic
import Derived.BigQuiet
import Derived.Deep.QuietTactic
namespace Go.Proofs.YtnhdcefoigmjpaaDoor
open Go.RowKit Go.Proofs.YtnhdcefoigmjpaaDoorW.PrintWords Go.Proofs.YtnhdcefoigmjpaaDoorW.PrintMore
set_option linter.unusedVariables false
set_option linter.unusedSimpArgs false

theorem u64w (n : Nat) (h : n < 18446744073709551616) : IntKind.u64.wrap (n : Int) = (n : Int) := by
  rw [IntKind.wrap_u64]; omega

/-- The library's sum, as the walk tells it. -/
theorem pop_int (x : Nat) (hx : x < 18446744073709551616) :
    let y1 := (IntKind.u64.wrap ((bits .and .u64 ((x : Int) / 2) 6148914691236517205) + (bits .and .u64 (x : Int) 6148914691236517205)))
    let y2 := (IntKind.u64.wrap ((bits .and .u64 (y1 / 4) 3689348814741910323) + (bits .and .u64 y1 3689348814741910323)))
    let y3 := (bits .and .u64 (IntKind.u64.wrap ((y2 / 16) + y2)) 1085102592571150095)
    let y4 := IntKind.u64.wrap (y3 + y3 / 256)
    let y5 := IntKind.u64.wrap (y4 + y4 / 65536)
    let y6 := IntKind.u64.wrap (y5 + y5 / 4294967296)
    bits .and .i64 (wrap64 y6) 127 = (cntN x : Int) := by
  intro y1 y2 y3 y4 y5 y6
  obtain ⟨a1, h1⟩ : ∃ a, a = ((x / 2) &&& 6148914691236517205) + (x &&& 6148914691236517205) := ⟨_, rfl⟩
  obtain ⟨a2, h2⟩ : ∃ a, a = ((a1 / 4) &&& 3689348814741910323) + (a1 &&& 3689348814741910323) := ⟨_, rfl⟩
  obtain ⟨a3, h3⟩ : ∃ a, a = (a2 / 16 + a2) &&& 1085102592571150095 := ⟨_, rfl⟩
  obtain ⟨hlt, hpop⟩ := pop_eq x a1 a2 a3 h1 h2 h3
  have q1 : (x / 2) &&& 6148914691236517205 ≤ 6148914691236517205 := Nat.and_le_right
  have q2 : x &&& 6148914691236517205 ≤ 6148914691236517205 := Nat.and_le_right
  have q3 : (a1 / 4) &&& 3689348814741910323 ≤ 3689348814741910323 := Nat.and_le_right
  have q4 : a1 &&& 3689348814741910323 ≤ 3689348814741910323 := Nat.and_le_right
  have e1 : bits .and .u64 ((x : Int) / 2) 6148914691236517205 = ((x / 2 &&& 6148914691236517205 : Nat) : Int) := bits_and_u64_nat (x / 2) 6148914691236517205 (by omega) (by omega)
  have e2 : bits .and .u64 (x : Int) 6148914691236517205 = ((x &&& 6148914691236517205 : Nat) : Int) := bits_and_u64_nat x 6148914691236517205 (by omega) (by omega)
  have z1 : y1 = (a1 : Int) := by
    show (IntKind.u64.wrap ((bits .and .u64 ((x : Int) / 2) 6148914691236517205) + (bits .and .u64 (x : Int) 6148914691236517205))) = _
    rw [e1, e2, IntKind.wrap_u64]; omega
  have e3 : bits .and .u64 ((a1 : Int) / 4) 3689348814741910323 = ((a1 / 4 &&& 3689348814741910323 : Nat) : Int) := bits_and_u64_nat (a1 / 4) 3689348814741910323 (by omega) (by omega)
  have e4 : bits .and .u64 (a1 : Int) 3689348814741910323 = ((a1 &&& 3689348814741910323 : Nat) : Int) := bits_and_u64_nat a1 3689348814741910323 (by omega) (by omega)
  have z2 : y2 = (a2 : Int) := by
    show (IntKind.u64.wrap ((bits .and .u64 (y1 / 4) 3689348814741910323) + (bits .and .u64 y1 3689348814741910323))) = _
    rw [z1, e3, e4, IntKind.wrap_u64]; omega
  have z3 : y3 = (a3 : Int) := by
    show (bits .and .u64 (IntKind.u64.wrap ((y2 / 16) + y2)) 1085102592571150095) = _
    rw [z2, h3, show IntKind.u64.wrap ((a2 : Int) / 16 + (a2 : Int)) = ((a2 / 16 + a2 : Nat) : Int) by rw [IntKind.wrap_u64]; omega]
    exact bits_and_u64_nat (a2 / 16 + a2) 1085102592571150095 (by omega) (by omega)
  have z4 : y4 = ((a3 + a3 / 256 : Nat) : Int) := by
    show IntKind.u64.wrap (y3 + y3 / 256) = _
    rw [z3, IntKind.wrap_u64]; omega
  have z5 : y5 = (((a3 + a3 / 256) + (a3 + a3 / 256) / 65536 : Nat) : Int) := by
    show IntKind.u64.wrap (y4 + y4 / 65536) = _
    rw [z4, IntKind.wrap_u64]; omega
  have z6 : wrap64 y6 = (((a3 + a3 / 256) + (a3 + a3 / 256) / 65536 + ((a3 + a3 / 256) + (a3 + a3 / 256) / 65536) / 4294967296 : Nat) : Int) := by
    show wrap64 (IntKind.u64.wrap (y5 + y5 / 4294967296)) = _
    rw [z5, IntKind.wrap_u64]; unfold wrap64; omega
  rw [z6, i64_and127]
  omega

set_option maxHeartbeats 2000000 in
set_option maxRecDepth 100000 in
theorem ones_calls (x : Nat) (w : World) (hx : x < 18446744073709551616) :
    Calls Tryd.prog 89 #[.int .u64 x] w fun e w' => e = .returned (.int .i64 (cntN x)) ∧ w = w' := by
  go_enter Tryd.func89, Tryd.ntmps89
  go_wp2
  go_ret
  refine ⟨ret_int ?_, rfl⟩
  have hp := pop_int x hx
  exact hp

theorem pow_wrap (i : Int) (h1 : i < 64) : IntKind.u64.wrap (2 ^ i.toNat) = ((2 ^ i.toNat : Nat) : Int) := by
  have : 2 ^ i.toNat < 2 ^ 64 := Nat.pow_lt_pow_right (by decide) (by omega)
  rw [← U64_pow] at this
  have e : ((2 : Int) ^ i.toNat) = ((2 ^ i.toNat : Nat) : Int) := by simp
  rw [e]; exact u64w _ this
theorem oneN_in (i : Int) (h0 : 0 ≤ i) (h1 : i < 64) : IntKind.u64.wrap (2 ^ i.toNat) = (oneN i : Int) := by
  rw [pow_wrap i h1]; unfold oneN; rw [if_pos ⟨h0, h1⟩]
theorem oneN_out (i : Int) (h : ¬ (0 ≤ i ∧ i < 64)) : oneN i = 0 := by unfold oneN; rw [if_neg h]
theorem belowN_in (i : Int) (h0 : 0 < i) (h1 : i < 64) : IntKind.u64.wrap (IntKind.u64.wrap (2 ^ i.toNat) - 1) = (belowN i : Int) := by
  rw [pow_wrap i h1]; unfold belowN; rw [if_neg (by omega), if_neg (by omega)]
  have : 2 ^ i.toNat < 2 ^ 64 := Nat.pow_lt_pow_right (by decide) (by omega)
  rw [← U64_pow] at this
  have hp : 0 < 2 ^ i.toNat := Nat.two_pow_pos _
  rw [IntKind.wrap_u64]; omega
theorem and_u64 (a b : Nat) (ha : a < 18446744073709551616) (hb : b < 18446744073709551616) : bits .and .u64 (a : Int) (b : Int) = ((a &&& b : Nat) : Int) := bits_and_u64_nat a b ha hb
theorem or_u64 (a b : Nat) (ha : a < 18446744073709551616) (hb : b < 18446744073709551616) : bits .or .u64 (a : Int) (b : Int) = ((a ||| b : Nat) : Int) := bits_or_u64_nat a b ha hb
theorem andNot_u64 (a b : Nat) (ha : a < 18446744073709551616) (hb : b < 18446744073709551616) : bits .andNot .u64 (a : Int) (b : Int) = ((a &&& notN b : Nat) : Int) := u64_andNot_nat a b ha hb

set_option maxHeartbeats 400000 in
theorem there_calls (i : Int) (w : World) : Calls Tryd.prog 88 #[.int .i64 i] w fun e w' => e = .returned (.bool (decide (0 ≤ i ∧ i < 64))) ∧ w = w' := by
  by_cases h : 0 ≤ i
  · go_enter Tryd.func88, Tryd.ntmps88
    go_wp2
    go_ret
    refine ⟨ret_bool ?_, rfl⟩
    simp [h]
  · go_enter Tryd.func88, Tryd.ntmps88
    go_wp2
    go_ret
    refine ⟨ret_bool ?_, rfl⟩
    simp; omega
set_option maxHeartbeats 400000 in
theorem one_calls (i : Int) (w : World) : Calls Tryd.prog 78 #[.int .i64 i] w fun e w' => e = .returned (.int .u64 (oneN i)) ∧ w = w' := by
  by_cases h : 0 ≤ i ∧ i < 64
  · have hd : decide (0 ≤ i ∧ i < 64) = true := decide_eq_true h
    obtain ⟨h0, h1⟩ := h
    go_enter Tryd.func78, Tryd.ntmps78
    go_wp2_with (go_at_call 88; refine (there_calls i _).mono ?_; rw [hd]; rintro e w' ⟨rfl, rfl⟩)
    go_ret
    exact ⟨ret_int (oneN_in i h0 h1), rfl⟩
  · have hd : decide (0 ≤ i ∧ i < 64) = false := decide_eq_false h
    have HO := Lib.hid (oneN_out i h)
    clear h
    go_enter Tryd.func78, Tryd.ntmps78
    go_wp2_with (go_at_call 88; refine (there_calls i _).mono ?_; rw [hd]; rintro e w' ⟨rfl, rfl⟩)
    go_ret
    exact ⟨ret_int (by rw [HO.out]; rfl), rfl⟩
set_option maxHeartbeats 400000 in
theorem below_calls (i : Int) (w : World) : Calls Tryd.prog 76 #[.int .i64 i] w fun e w' => e = .returned (.int .u64 (belowN i)) ∧ w = w' := by
  by_cases h : i ≤ 0
  · go_enter Tryd.func76, Tryd.ntmps76
    go_wp2
    go_ret
    refine ⟨ret_int ?_, rfl⟩
    unfold belowN; rw [if_pos (by omega)]; rfl
  · by_cases h1 : 64 ≤ i
    · go_enter Tryd.func76, Tryd.ntmps76
      go_wp2
      go_ret
      refine ⟨ret_int ?_, rfl⟩
      unfold belowN; rw [if_neg (by omega), if_pos (by omega)]; rfl
    · go_enter Tryd.func76, Tryd.ntmps76
      go_wp2
      go_ret
      exact ⟨ret_int (belowN_in i (by omega) (by omega)), rfl⟩
set_option maxHeartbeats 400000 in
theorem get_calls (x : Nat) (i : Int) (w : World) (hx : x < 18446744073709551616) : Calls Tryd.prog 51 #[.int .u64 x, .int .i64 i] w fun e w' => e = .returned (.bool (getN x i)) ∧ w = w' := by
  have ho := oneN_lt i
  have ha := and_u64 x (oneN i) hx ho
  have hg := Lib.hid (get_eq x i)
  clear hx ho
  go_enter Tryd.func51, Tryd.ntmps51
  go_wp2_with (go_at_call 78; refine (one_calls i _).mono ?_; rintro e w' ⟨rfl, rfl⟩)
  go_ret
  refine ⟨ret_bool ?_, rfl⟩
  rw [← hg.out]
  by_cases k : x &&& oneN i = 0
  · simp [k]
  · simp [k]
set_option maxHeartbeats 400000 in
theorem set_calls (x : Nat) (i : Int) (w : World) (hx : x < 18446744073709551616) : Calls Tryd.prog 56 #[.int .u64 x, .int .i64 i] w fun e w' => e = .returned (.int .u64 (setN x i)) ∧ w = w' := by
  have ho := oneN_lt i
  have ha := or_u64 x (oneN i) hx ho
  clear hx ho
  go_enter Tryd.func56, Tryd.ntmps56
  go_wp2_with (go_at_call 78; refine (one_calls i _).mono ?_; rintro e w' ⟨rfl, rfl⟩)
  go_ret
  exact ⟨rfl, rfl⟩
set_option maxHeartbeats 400000 in
theorem clear_calls (x : Nat) (i : Int) (w : World) (hx : x < 18446744073709551616) : Calls Tryd.prog 61 #[.int .u64 x, .int .i64 i] w fun e w' => e = .returned (.int .u64 (clrN x i)) ∧ w = w' := by
  have ho := oneN_lt i
  have ha := andNot_u64 x (oneN i) hx ho
  clear hx ho
  go_enter Tryd.func61, Tryd.ntmps61
  go_wp2_with (go_at_call 78; refine (one_calls i _).mono ?_; rintro e w' ⟨rfl, rfl⟩)
  go_ret
  exact ⟨rfl, rfl⟩
set_option maxHeartbeats 400000 in
theorem count_calls (x : Nat) (w : World) (hx : x < 18446744073709551616) : Calls Tryd.prog 79 #[.int .u64 x] w fun e w' => e = .returned (.int .i64 (cntN x)) ∧ w = w' := by
  have HX := Lib.hid hx
  clear hx
  go_enter Tryd.func79, Tryd.ntmps79
  go_wp2_with (go_at_call 89; refine (ones_calls x _ HX.out).mono ?_; rintro e w' ⟨rfl, rfl⟩)
  go_ret
  exact ⟨rfl, rfl⟩
set_option maxHeartbeats 400000 in
theorem low_calls (x : Nat) (w : World) (hx : x < 18446744073709551616) (hT : Tb w) : Calls Tryd.prog 75 #[.int .u64 x] w fun e w' => e = .returned (.int .i64 (lowN x)) ∧ w = w' := by
  have HL := Lib.hid (low_eq x hx)
  have HX := Lib.hid hx
  have HT := Lib.hid hT
  clear hx hT
  by_cases h : x = 0
  · have t1 : ((x : Int) == 0) = true := by simp [h]
    have H0 := Lib.hid h
    clear h
    go_enter Tryd.func75, Tryd.ntmps75
    go_wp2
    go_ret
    exact ⟨ret_int (by rw [← HL.out, if_pos H0.out]), rfl⟩
  · have t1 : ((x : Int) == 0) = false := by simp [h]
    have H0 := Lib.hid h
    clear h
    go_enter Tryd.func75, Tryd.ntmps75
    go_wp2_with (go_at_call 86; refine (tz64_calls x _ HX.out H0.out HT.out).mono ?_; rintro e w' ⟨rfl, rfl⟩)
    go_ret
    exact ⟨ret_int (by rw [← HL.out, if_neg H0.out]), rfl⟩
theorem bitLen_le (x : Nat) : Lib.bitLen x ≤ 64 := by
  have h : ∀ f y, Lib.bitLenAux f y ≤ f := by
    intro f
    induction f with
    | zero => intro y; simp [Lib.bitLenAux]
    | succ f ih => intro y; simp only [Lib.bitLenAux]; have := ih (y / 2); split <;> omega
  exact h 64 x
set_option maxHeartbeats 400000 in
theorem high_calls (x : Nat) (w : World) (hx : x < 18446744073709551616) : Calls Tryd.prog 77 #[.int .u64 x] w fun e w' => e = .returned (.int .i64 (highN x)) ∧ w = w' := by
  have HL := Lib.hid (high_eq x hx)
  have HX := Lib.hid hx
  have hb := bitLen_le x
  clear hx
  go_enter Tryd.func77, Tryd.ntmps77
  go_wp2_with (go_at_call 87; refine (len64_calls x _ HX.out).mono ?_; rintro e w' ⟨rfl, rfl⟩)
  go_ret
  exact ⟨ret_int HL.out, rfl⟩
set_option maxHeartbeats 400000 in
theorem bnext_calls (x : Nat) (i : Int) (w : World) (hx : x < 18446744073709551616) (hT : Tb w) : Calls Tryd.prog 43 #[.int .u64 x, .int .i64 i] w fun e w' => e = .returned (.int .i64 (nextL (listW x) i)) ∧ w = w' := by
  have ha := andNot_u64 x (belowN i) hx (belowN_lt i)
  have HE := Lib.hid (next_eq x i)
  have HT := Lib.hid hT
  have HX := Lib.hid (and_lt' x (notN (belowN i)) hx)
  clear hx hT
  go_enter Tryd.func43, Tryd.ntmps43
  go_wp2_with (first | (go_at_call 76; refine (below_calls i _).mono ?_; rintro e w' ⟨rfl, rfl⟩) | (go_at_call 75; refine (low_calls _ _ HX.out HT.out).mono ?_; rintro e w' ⟨rfl, rfl⟩))
  go_ret
  exact ⟨ret_int HE.out, rfl⟩
set_option maxHeartbeats 400000 in
theorem bprev_calls (x : Nat) (i : Int) (w : World) (hx : x < 18446744073709551616) : Calls Tryd.prog 45 #[.int .u64 x, .int .i64 i] w fun e w' => e = .returned (.int .i64 (prevL (listW x) i)) ∧ w = w' := by
  by_cases h : i < 0
  · have HE := Lib.hid (prev_neg x i h)
    clear hx
    go_enter Tryd.func45, Tryd.ntmps45
    go_wp2
    go_ret
    exact ⟨ret_int HE.out.symm, rfl⟩
  · have hb := or_u64 (belowN i) (oneN i) (belowN_lt i) (oneN_lt i)
    have ha := and_u64 x (belowN i ||| oneN i) hx (or_lt _ _ (belowN_lt i) (oneN_lt i))
    have HE := Lib.hid (prev_eq x i)
    have HX := Lib.hid (and_lt' x (belowN i ||| oneN i) hx)
    clear hx
    go_enter Tryd.func45, Tryd.ntmps45
    go_wp2_with (first | (go_at_call 76; refine (below_calls i _).mono ?_; rintro e w' ⟨rfl, rfl⟩) | (go_at_call 78; refine (one_calls i _).mono ?_; rintro e w' ⟨rfl, rfl⟩) | (go_at_call 77; refine (high_calls _ _ HX.out).mono ?_; rintro e w' ⟨rfl, rfl⟩))
    go_ret
    exact ⟨ret_int HE.out, rfl⟩
set_option maxHeartbeats 400000 in
theorem brank_calls (x : Nat) (i : Int) (w : World) (hx : x < 18446744073709551616) : Calls Tryd.prog 50 #[.int .u64 x, .int .i64 i] w fun e w' => e = .returned (.int .i64 (rankL (listW x) i)) ∧ w = w' := by
  have ha := and_u64 x (belowN i) hx (belowN_lt i)
  have HE := Lib.hid (rank_eq x i)
  have HX := Lib.hid (and_lt' x (belowN i) hx)
  clear hx
  go_enter Tryd.func50, Tryd.ntmps50
  go_wp2_with (first | (go_at_call 76; refine (below_calls i _).mono ?_; rintro e w' ⟨rfl, rfl⟩) | (go_at_call 79; refine (count_calls _ _ HX.out).mono ?_; rintro e w' ⟨rfl, rfl⟩))
  go_ret
  exact ⟨ret_int (by rw [← HE.out]), rfl⟩
set_option maxHeartbeats 400000 in
theorem mask_calls (a b : Int) (w : World) : Calls Tryd.prog 80 #[.int .i64 a, .int .i64 b] w fun e w' => e = .returned (.int .u64 (maskN a b)) ∧ w = w' := by
  have ha := andNot_u64 (belowN b) (belowN a) (belowN_lt b) (belowN_lt a)
  go_enter Tryd.func80, Tryd.ntmps80
  go_wp2_with (go_at_call 76; refine (below_calls _ _).mono ?_; rintro e w' ⟨rfl, rfl⟩)
  go_ret
  exact ⟨rfl, rfl⟩

/-! ### select -/
theorem pow6 (s : Nat) (h : s = 32 ∨ s = 16 ∨ s = 8 ∨ s = 4 ∨ s = 2 ∨ s = 1 ∨ s = 0) : s ≤ 32 ∧ (s / 2 = 32 ∨ s / 2 = 16 ∨ s / 2 = 8 ∨ s / 2 = 4 ∨ s / 2 = 2 ∨ s / 2 = 1 ∨ s / 2 = 0) ∧ (0 < s → (if s / 2 = 0 then 1 else 2 * (s / 2)) = s) := by
  rcases h with rfl | rfl | rfl | rfl | rfl | rfl | rfl <;> decide
/-- The window: how wide it is behind this many halvings. -/
def wide (s : Nat) : Nat := if s = 0 then 1 else 2 * s

set_option maxHeartbeats 1000000 in
theorem bselect_calls (x : Nat) (k : Int) (w : World) (hx : x < 18446744073709551616) : Calls Tryd.prog 49 #[.int .u64 x, .int .i64 k] w fun e w' => e = .returned (.int .i64 (selectL (listW x) k)) ∧ w = w' := by
  have HX := Lib.hid hx
  have hc := cntN_le x
  have HM := Lib.hid (fun a b => and_u64 x (maskN a b) hx (and_lt' _ _ (belowN_lt b)))
  have HY := Lib.hid (fun a b => and_lt' x (maskN a b) hx)
  clear hx
  by_cases hk : k < 0
  · have HS : Hid (selectL (listW x) k = -1) := Lib.hid (by simp [selectL, hk])
    go_enter Tryd.func49, Tryd.ntmps49
    go_wp2
    go_ret
    exact ⟨ret_int HS.out.symm, rfl⟩
  · obtain ⟨m, rfl⟩ := Int.eq_ofNat_of_zero_le (Int.not_lt.1 hk)
    clear hk
    by_cases hm : cntN x ≤ m
    · have HS : Hid (selectL (listW x) (m : Int) = -1) := Lib.hid (by
        simp only [selectL]; rw [if_neg (by omega)]; simp [List.getD, List.getElem?_eq_none (show (listW x).length ≤ m from hm)])
      go_enter Tryd.func49, Tryd.ntmps49
      go_wp2_with (go_at_call 79; refine (count_calls _ _ HX.out).mono ?_; rintro e w' ⟨rfl, rfl⟩)
      go_ret
      exact ⟨ret_int HS.out.symm, rfl⟩
    · have h64 : rankL (listW x) 64 = cntN x := rankL_all x
      have h0 : rankL (listW x) 0 = 0 := rankL_zero x
      have HI : Hid (rankL (listW x) ((0 : Nat) : Int) + m = m ∧ m < rankL (listW x) (((0 : Nat) : Int) + (wide 32 : Nat))) := Lib.hid ⟨by have : ((0 : Nat) : Int) = 0 := rfl; rw [this]; omega, by have : ((0 : Nat) : Int) + ((wide 32 : Nat) : Int) = 64 := rfl; rw [this]; omega⟩
      clear h64 h0
      go_enter Tryd.func49, Tryd.ntmps49
      go_wp2_with (go_at_call 79; refine (count_calls _ _ HX.out).mono ?_; rintro e w' ⟨rfl, rfl⟩)
      go_loop [1, 5, 6] (fun b a s => ∃ (q at_ st : Nat), b = .int .i64 q ∧ a = .int .i64 at_ ∧ s = .int .i64 st ∧ (st = 32 ∨ st = 16 ∨ st = 8 ∨ st = 4 ∨ st = 2 ∨ st = 1 ∨ st = 0) ∧ at_ + wide st ≤ 64 ∧ q ≤ m ∧ Hid (rankL (listW x) (at_ : Int) + q = m ∧ m < rankL (listW x) ((at_ : Int) + (wide st : Nat)))) (fun _ _ s => (intOf s).toNat)
      case atStart => exact ⟨m, 0, 32, rfl, rfl, rfl, .inl rfl, by decide, Nat.le_refl _, HI⟩
      case round =>
        obtain ⟨q, at_, st, rfl, rfl, rfl, hst, hat, hqm, HH⟩ := hrel
        obtain ⟨s1, s2, s3⟩ := pow6 st hst
        clear hst HI
        by_cases hz : 0 < st
        · obtain ⟨n, hn⟩ : ∃ n, n = cntN (x &&& maskN (at_ : Int) ((at_ : Int) + (st : Int))) := ⟨_, rfl⟩
          have hn64 : n ≤ 64 := by rw [hn]; exact cntN_le _
          have hw : at_ + st ≤ 64 := by unfold wide at hat; rw [if_neg (by omega)] at hat; omega
          have HN : Hid (n + rankL (listW x) (at_ : Int) = rankL (listW x) ((at_ : Int) + (st : Int))) := Lib.hid (by rw [hn]; exact mask_cnt x _ _ (by omega))
          have hmm := HM.out (at_ : Int) ((at_ : Int) + (st : Int))
          have HC := Lib.hid (count_calls _ w (HY.out (at_ : Int) ((at_ : Int) + (st : Int))))
          rw [← hn] at HC
          clear hn
          have HW : Hid (wide (st / 2) = st) := Lib.hid (s3 hz)
          have ed : ((st : Int) / 2) = ((st / 2 : Nat) : Int) := by omega
          have HE := Lib.hid ed
          clear ed s3
          by_cases hle : n ≤ q
          · go_wp2_with (first | (go_at_call 80; refine (mask_calls _ _ _).mono ?_; rintro e w' ⟨rfl, rfl⟩) | (go_at_call 79; refine HC.out.mono ?_; rintro e w' ⟨rfl, rfl⟩))
            go_round
            case rel =>
              have h1 := HN.out
              have h2 := HH.out
              have h3 : wide st = 2 * st := by unfold wide; rw [if_neg (by omega)]
              refine ⟨q - n, at_ + st, st / 2, ?_, by go_num, ?_, s2, by rw [HW.out]; omega, by omega, Lib.hid ⟨?_, ?_⟩⟩
              · rw [Int.ofNat_sub hle]
              · first | rw [HE.out] | go_num
              · rw [Int.natCast_add]; omega
              · rw [HW.out, Int.natCast_add]
                have e : (at_ : Int) + (st : Int) + (st : Int) = (at_ : Int) + ((wide st : Nat) : Int) := by rw [h3]; omega
                rw [e]; exact h2.2
            case measure => simp [intOf]; omega
          · go_wp2_with (first | (go_at_call 80; refine (mask_calls _ _ _).mono ?_; rintro e w' ⟨rfl, rfl⟩) | (go_at_call 79; refine HC.out.mono ?_; rintro e w' ⟨rfl, rfl⟩))
            go_round
            case rel =>
              have h1 := HN.out
              have h2 := HH.out
              refine ⟨q, at_, st / 2, rfl, rfl, ?_, s2, by rw [HW.out]; omega, by omega, Lib.hid ⟨h2.1, ?_⟩⟩
              · first | rw [HE.out] | go_num
              · rw [HW.out]; omega
            case measure => simp [intOf]; omega
        · have hz0 : st = 0 := by omega
          subst hz0
          go_wp2
          go_ret
          have h2 := HH.out
          have h3 := select_of_rank (listW_sorted x) (a := (at_ : Int)) (by have : ((wide 0 : Nat) : Int) = 1 := rfl; rw [this] at h2; omega)
          have h4 : rankL (listW x) (at_ : Int) = m := by
            have := rankL_step (listW_sorted x) (at_ : Int)
            have e : ((wide 0 : Nat) : Int) = 1 := rfl
            rw [e] at h2; omega
          refine ⟨ret_int ?_, rfl⟩
          rw [← h4, h3.1]

/-! ### words of lists -/
def makeN (l : List Int) : Nat := l.foldl (fun w i => w ||| oneN i) 0
def anyN (l : List Int) : Nat := l.foldl (fun w x => w ||| x.toNat) 0
def allN (l : List Int) : Nat := l.foldl (fun w x => w &&& x.toNat) 18446744073709551615
theorem makeN_snoc (l : List Int) (i : Int) : makeN (l ++ [i]) = makeN l ||| oneN i := by simp [makeN, List.foldl_append]
theorem anyN_snoc (l : List Int) (i : Int) : anyN (l ++ [i]) = anyN l ||| i.toNat := by simp [anyN, List.foldl_append]
theorem allN_snoc (l : List Int) (i : Int) : allN (l ++ [i]) = allN l &&& i.toNat := by simp [allN, List.foldl_append]





end Go.Proofs.YtnhdcefoigmjpaaDoor
