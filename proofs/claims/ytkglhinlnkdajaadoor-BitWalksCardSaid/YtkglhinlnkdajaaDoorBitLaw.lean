/-
  The walks of the laws on package bit: the document's example; BitMasks, BitInverse, BitAsks, BitRest, BitSets.
-/
import Derived.Test.YtkglhinlnkdajaaDoorBit
namespace Go.Proofs.YtkglhinlnkdajaaDoor
open Go.RowKit Go.Proofs.YtkglhinlnkdajaaDoorW.PrintWords Go.Proofs.YtkglhinlnkdajaaDoorW.PrintMore
attribute [local go_sem] max2_int min2_int max_two min_two
set_option linter.unusedVariables false
set_option linter.unusedSimpArgs false

theorem R_new (W : World) (k : IntKind) (e : Nat) (xs : List Int) (h : xs.length ≤ maxLen) : Kd.R (Kd.int k) e (W.alloc (.cells (xs.map (Value.int k)).toArray e)) W.heap.size (fun _ => True) (.slice (some ⟨W.heap.size, 0, none⟩) xs.length xs.length) xs := by
  refine Kd.R_of_own ?_ (fun _ _ => trivial)
  have := World.ownsRow_lit (base := W.heap.size) (e := e) (size := 1) W (xs.map (Value.int k)).toArray xs.length (Nat.le_refl _) h (by simp)
  simpa [encs] using this
theorem C_new (W : World) (k : IntKind) (e : Nat) (xs : List Int) (h : xs.length ≤ maxLen) : Kd.C (Kd.int k) (W.alloc (.cells (xs.map (Value.int k)).toArray e)) (some ⟨W.heap.size, 0, none⟩) xs.length xs := by
  obtain ⟨A, c, h1, _, h3⟩ := Kd.R_reads (R_new W k e xs h)
  injection h1 with h1
  subst h1
  exact h3
theorem C_nil (k : IntKind) (W : World) : Kd.C (Kd.int k) W none 0 [] := by
  obtain ⟨A, c, h, _, hC⟩ := Kd.R_reads (Kd.R_nil (Kd.int k) 0 W 0 (fun _ => True))
  injection h with h1
  subst h1
  exact hC
theorem C_nw {k : IntKind} {W W1 : World} {A : Option Addr} {n : Nat} {xs : List Int} (h : Kd.C (Kd.int k) W A n xs) (hf : Nw W W1) : Kd.C (Kd.int k) W1 A n xs := Kd.C_below h (hf.below (fun _ _ h => h))

/-- The table is there, and nothing that was there has turned. -/
def Q (W W1 : World) : Prop := Tb W1 ∧ Nw W W1
theorem Q.step {W W1 W2 : World} (h : Q W W1) (hf : Nw W1 W2) : Q W W2 := ⟨h.1.step hf, h.2.trans hf⟩

set_option maxHeartbeats 1000000 in
theorem bawake_calls (w : World) (hT : Tb w) : Calls Tryd.prog 10 #[] w fun e w' => e = .returned (.bool true) ∧ Nw w w' := by
  have HT := Lib.hid hT
  clear hT
  have HC := Lib.hid (C_new w .i64 3 [3, 9] (by unfold maxLen; simp))
  have HF : Hid (Nw w (w.alloc (.cells (([3, 9] : List Int).map (Value.int .i64)).toArray 3))) := Lib.hid ((Fr.refl _ _).alloc _)
  have HM : Hid (makeN [3, 9] = 520) := Lib.hid (by decide)
  have e1 : nextL (listW 520) 4 = 9 := by decide
  have e2 : prevL (listW 520) 4 = 3 := by decide
  have e3 : rankL (listW 520) 9 = 1 := by decide
  have e4 : selectL (listW 520) 1 = 9 := by decide
  have hlt : 520 < 18446744073709551616 := by decide
  have HLT := Lib.hid hlt
  clear hlt
  have hmk := make_calls (some ⟨w.heap.size, 0, none⟩) 2 [3, 9] _ HC.out (by decide)
  rw [HM.out] at hmk
  have HMK := Lib.hid hmk
  clear hmk
  go_enter Tryd.func10, Tryd.ntmps10
  go_wp2_with (first | (go_at_call 34; refine HMK.out.mono ?_; rintro e w' ⟨rfl, rfl⟩) | (go_at_call 16; refine (bnext_calls 520 4 _ HLT.out (HT.out.step HF.out)).mono ?_; rw [e1]; rintro e w' ⟨rfl, rfl⟩) | (go_at_call 18; refine (bprev_calls 520 4 _ HLT.out).mono ?_; rw [e2]; rintro e w' ⟨rfl, rfl⟩) | (go_at_call 20; refine (brank_calls 520 9 _ HLT.out).mono ?_; rw [e3]; rintro e w' ⟨rfl, rfl⟩) | (go_at_call 22; refine (bselect_calls 520 1 _ HLT.out).mono ?_; rw [e4]; rintro e w' ⟨rfl, rfl⟩))
  go_ret
  exact ⟨rfl, HF.out⟩

theorem mem_mask (a b x : Int) : x ∈ listW (maskN a b) ↔ 0 ≤ x ∧ x < 64 ∧ a ≤ x ∧ x < b := by
  rw [mem_listW]
  unfold maskN
  rw [Nat.testBit_and, tb_notN _ (belowN_lt a), tb_belowN, tb_belowN]
  constructor
  · rintro ⟨h1, h2, h3⟩
    simp only [Bool.and_eq_true, decide_eq_true_eq, Bool.not_eq_true', decide_eq_false_iff_not] at h3
    omega
  · rintro ⟨h1, h2, h3, h4⟩
    refine ⟨h1, h2, ?_⟩
    simp only [Bool.and_eq_true, decide_eq_true_eq, Bool.not_eq_true', decide_eq_false_iff_not]
    omega
theorem maskN_lt (a b : Int) : maskN a b < 18446744073709551616 := and_lt' _ _ (belowN_lt b)
theorem rank_in {l : List Int} (hl : l.Pairwise (· < ·)) {i : Int} (h : i ∈ l) : rankL l (i + 1) = rankL l i + 1 := by
  induction l with
  | nil => cases h
  | cons x r ih =>
    rw [List.pairwise_cons] at hl
    rw [rankL_cons, rankL_cons]
    rcases List.mem_cons.1 h with rfl | h
    · rw [if_pos (by omega), if_neg (by omega), rankL_ge (a := i + 1) (fun y hy => by have := hl.1 y hy; omega), rankL_ge (fun y hy => by have := hl.1 y hy; omega)]
    · have := hl.1 i h
      rw [ih hl.2 h, if_pos (by omega), if_pos (by omega)]; omega
theorem rank_out {l : List Int} {i : Int} (h : i ∉ l) : rankL l (i + 1) = rankL l i := by
  induction l with
  | nil => rfl
  | cons x r ih =>
    rw [rankL_cons, rankL_cons, ih (fun k => h (List.mem_cons_of_mem _ k))]
    have : x ≠ i := fun e => h (by rw [e]; exact List.mem_cons_self)
    by_cases k : x < i
    · rw [if_pos k, if_pos (by omega)]
    · rw [if_neg k, if_neg (by omega)]

set_option maxHeartbeats 1000000 in
theorem masks_calls (a b : Int) (w : World) (hT : Tb w) : Calls Tryd.prog 3 #[.int .i64 a, .int .i64 b] w fun e w' => e = .returned (.bool true) ∧ Nw w w' := by
  have HT := Lib.hid hT
  clear hT
  obtain ⟨l, hl⟩ : ∃ l, l = listW (maskN a b) := ⟨_, rfl⟩
  have HLC := Lib.hid (fun W => list_calls (maskN a b) W (maskN_lt a b))
  have HMem := Lib.hid (mem_mask a b)
  have HSo := Lib.hid (listW_sorted (maskN a b))
  have hlen := listW_len (maskN a b)
  have HRA := Lib.hid (rankL_all (maskN a b))
  have HR0 := Lib.hid (rankL_zero (maskN a b))
  unfold cntN at HRA
  rw [← hl] at HLC HMem HSo hlen HRA HR0
  clear hl
  go_enter Tryd.func3, Tryd.ntmps3
  go_wp2_with (first | (go_at_call 10; refine (bawake_calls _ HT.out).mono ?_; rintro e w1 ⟨rfl, hf⟩; have HF := Lib.hid hf; clear hf) | (go_at_call 12; refine (mask_calls _ _ _).mono ?_; rintro e w' ⟨rfl, rfl⟩) | (go_at_call 11; refine (HLC.out _).mono ?_; rintro e w2 ⟨v, rfl, ho, hb⟩; obtain ⟨A, c, rfl, hc, hC⟩ := Kd.R_reads ho; have HC := Lib.hid hC; have HF' := Lib.hid (HF.out.trans (Fr.of_below hb)); clear ho hb hC HF; have HF := HF'; clear HF'))
  go_loop [6, 7] (fun n i => ∃ (k q : Nat), k ≤ 64 ∧ i = .int .i64 k ∧ n = .int .i64 q ∧ q ≤ k ∧ Hid (q = rankL l (k : Int))) (fun _ i => 64 - (intOf i).toNat)
  case atStart => exact ⟨0, 0, Nat.zero_le _, rfl, rfl, Nat.le_refl _, Lib.hid HR0.out.symm⟩
  case round =>
    obtain ⟨k, q, hk, rfl, rfl, hq, HQ⟩ := hrel
    by_cases hlt : k < 64
    · by_cases ha : a ≤ (k : Int)
      · by_cases hb : (k : Int) < b
        · have hm : (k : Int) ∈ l := (HMem.out (k : Int)).2 ⟨by omega, by omega, ha, hb⟩
          have hr := rank_in HSo.out hm
          have hs := (select_of_rank HSo.out (a := (k : Int)) (by omega)).1
          rw [← HQ.out] at hs
          have t1 : ((k : Int) == (k : Int)) = true := by simp
          have t2 : ((k : Int) != (k : Int)) = false := by simp
          have HR := Lib.hid hr
          have HSE := Lib.hid hs
          clear hm hr hs
          go_wp2_with (go_at_call 13; refine (select_calls _ _ _ _ _ HC.out (by omega)).mono ?_; rw [HSE.out]; rintro e w' ⟨rfl, rfl⟩)
          go_round
          case rel => exact ⟨k + 1, q + 1, by omega, by go_num, by go_num, by omega, Lib.hid (by rw [HQ.out, Int.natCast_add]; exact HR.out.symm)⟩
          case measure => simp [intOf]; omega
        · have hm : (k : Int) ∉ l := fun h => hb ((HMem.out (k : Int)).1 h).2.2.2
          have HR := Lib.hid (rank_out hm)
          clear hm
          go_wp2
          go_round
          case rel => exact ⟨k + 1, q, by omega, by go_num, rfl, by omega, Lib.hid (by rw [HQ.out, Int.natCast_add]; exact HR.out.symm)⟩
          case measure => simp [intOf]; omega
      · have hm : (k : Int) ∉ l := fun h => ha ((HMem.out (k : Int)).1 h).2.2.1
        have HR := Lib.hid (rank_out hm)
        clear hm
        go_wp2
        go_round
        case rel => exact ⟨k + 1, q, by omega, by go_num, rfl, by omega, Lib.hid (by rw [HQ.out, Int.natCast_add]; exact HR.out.symm)⟩
        case measure => simp [intOf]; omega
    · have e : k = 64 := by omega
      have e2 : q = l.length := by rw [HQ.out, e]; exact HRA.out
      have t1 : ((l.length : Int) == (q : Int)) = true := by rw [e2]; simp
      have HE := Lib.hid e2
      clear e e2
      go_wp2
      go_ret
      exact ⟨rfl, HF.out⟩
end Go.Proofs.YtkglhinlnkdajaaDoor
