/-
  The walk of the law BitRest.
-/
import Derived.Test.YtkglhinlnkdajaaDoorBitLaw2
namespace Go.Proofs.YtkglhinlnkdajaaDoor
open Go.RowKit Go.Proofs.YtkglhinlnkdajaaDoorW.PrintWords Go.Proofs.YtkglhinlnkdajaaDoorW.PrintMore
attribute [local go_sem] max2_int min2_int max_two min_two
set_option linter.unusedVariables false
set_option linter.unusedSimpArgs false


theorem clamp_nat (i : Int) : ∃ m : Nat, clampL i 64 = (m : Int) ∧ m ≤ 64 ∧ (i ≤ m ∨ (m = 64 ∧ 64 ≤ i)) ∧ ((m : Int) ≤ i ∨ (m = 0 ∧ i ≤ 0)) := by
  refine ⟨(clampL i 64).toNat, ?_, ?_, ?_, ?_⟩ <;> unfold clampL <;> omega

theorem xor_full (x : Nat) (hx : x < 18446744073709551616) : 18446744073709551615 ^^^ x = notN x := by
  apply Nat.eq_of_testBit_eq
  intro j
  rw [tb_notN x hx, Nat.testBit_xor, show (18446744073709551615 : Nat) = 2 ^ 64 - 1 by decide, Nat.testBit_two_pow_sub_one]
  by_cases h : j < 64
  · simp [h]
  · rw [tb_high hx (Nat.le_of_not_lt h)]; simp [h]

set_option maxHeartbeats 1000000 in
theorem rest_calls (x : Nat) (i : Int) (w : World) (hx : x < 18446744073709551616) (hT : Tb w) : Calls Tryd.prog 6 #[.int .u64 x, .int .i64 i] w fun e w' => e = .returned (.bool true) ∧ Nw w w' := by
  have HT := Lib.hid hT
  have HX := Lib.hid hx
  obtain ⟨m, hm, hm2, hm3, hm4⟩ := clamp_nat i
  have hr := rest_rank x hx i
  have hcn := rest_cnt x hx
  have HMem := Lib.hid (mem_rest x hx)
  have hnx : bits .xor .u64 IntKind.u64.max (x : Int) = (notN x : Int) := by
    rw [show IntKind.u64.max = ((18446744073709551615 : Nat) : Int) from rfl, bits_xor_u64_nat _ _ (by decide) hx, xor_full x hx]
  clear hT hx
  obtain ⟨y, hy⟩ : ∃ y, y = notN x := ⟨_, rfl⟩
  have hy2 : y < 18446744073709551616 := by rw [hy]; exact notN_lt x
  have HY := Lib.hid hy2
  obtain ⟨f, hf⟩ : ∃ f, f = nextL (listW y) i := ⟨_, rfl⟩
  have HCl := Lib.hid (fun W => clamp_calls i 64 W)
  rw [hm] at HCl hr
  have HN := Lib.hid (fun W h => bnext_calls y i W HY.out h)
  rw [← hf] at HN
  have HR1 := Lib.hid (fun W => brank_calls x i W HX.out)
  have HR2 := Lib.hid (fun W => brank_calls y i W HY.out)
  have HC1 := Lib.hid (fun W => count_calls x W HX.out)
  have HC2 := Lib.hid (fun W => count_calls y W HY.out)
  rw [← hy] at hr hcn HMem hnx
  have HFr := Lib.hid (fun (h : ∀ z, z ∈ listW y → z < i) => by rw [hf]; exact next_none h : (∀ z, z ∈ listW y → z < i) → f = -1)
  have HFk := Lib.hid (fun (k : Int) (h1 : k ∈ listW y) (h2 : i ≤ k) (h3 : ∀ z, z ∈ listW y → i ≤ z → k ≤ z) => by rw [hf]; exact next_is (listW_sorted y) h1 h2 h3 : ∀ k : Int, k ∈ listW y → i ≤ k → (∀ z, z ∈ listW y → i ≤ z → k ≤ z) → f = k)
  obtain ⟨r1, hr1⟩ : ∃ r, r = rankL (listW x) i := ⟨_, rfl⟩
  obtain ⟨r2, hr2⟩ : ∃ r, r = rankL (listW y) i := ⟨_, rfl⟩
  obtain ⟨c1, hc1⟩ : ∃ r, r = cntN x := ⟨_, rfl⟩
  obtain ⟨c2, hc2⟩ : ∃ r, r = cntN y := ⟨_, rfl⟩
  rw [← hr1, ← hr2] at hr
  rw [← hc1, ← hc2] at hcn
  rw [← hr1] at HR1
  rw [← hr2] at HR2
  rw [← hc1] at HC1
  rw [← hc2] at HC2
  clear hr1 hr2 hc1 hc2 hf hm hy hy2
  have b1 : r1 ≤ 64 := by omega
  have b2 : r2 ≤ 64 := by omega
  have b3 : c1 ≤ 64 := by omega
  have b4 : c2 ≤ 64 := by omega
  have t1 : ((r1 : Int) + (r2 : Int) != (m : Int)) = false := by simp; omega
  have t2 : ((c1 : Int) + (c2 : Int) != 64) = false := by simp; omega
  have HRR := Lib.hid hr
  have HCN := Lib.hid hcn
  clear hr hcn
  go_enter Tryd.func6, Tryd.ntmps6
  go_wp2_with (first | (go_at_call 10; refine (bawake_calls _ HT.out).mono ?_; rintro e w1 ⟨rfl, hf⟩; have HQ : Hid (Q w w1) := Lib.hid ⟨HT.out.step hf, hf⟩; clear hf HT) | (go_at_call 26; refine (HCl.out _).mono ?_; rintro e w' ⟨rfl, rfl⟩))
  refine (HN.out _ HQ.out.1).mono ?_
  rintro e w' ⟨rfl, rfl⟩
  go_wp2_with (fail)
  refine (HR1.out _).mono ?_
  rintro e w' ⟨rfl, rfl⟩
  go_wp2_with (fail)
  refine (HR2.out _).mono ?_
  rintro e w' ⟨rfl, rfl⟩
  go_wp2_with (fail)
  refine (HC1.out _).mono ?_
  rintro e w' ⟨rfl, rfl⟩
  go_wp2_with (fail)
  refine (HC2.out _).mono ?_
  rintro e w' ⟨rfl, rfl⟩
  go_wp2_with (fail)
  go_loop [8] (fun a => ∃ k : Nat, m ≤ k ∧ k ≤ 64 ∧ a = .int .i64 k ∧ Hid (∀ z : Int, (m : Int) ≤ z → z < k → z ∈ listW x)) (fun a => 64 - (intOf a).toNat)
  case atStart => exact ⟨m, Nat.le_refl _, hm2, rfl, Lib.hid (fun z h1 h2 => by omega)⟩
  case round =>
    obtain ⟨k, hk1, hk2, rfl, HH⟩ := hrel
    by_cases hlt : k < 64
    · by_cases hg : (k : Int) ∈ listW x
      · have HG := Lib.hid (fun W => get_calls x (k : Int) W HX.out)
        rw [show getN x (k : Int) = true from decide_eq_true hg] at HG
        have HGG := Lib.hid hg
        clear hg
        go_wp2_with (go_at_call 14; refine (HG.out _).mono ?_; rintro e w' ⟨rfl, rfl⟩)
        go_round
        case rel => exact ⟨k + 1, by omega, by omega, by go_num, Lib.hid (fun z h1 h2 => by
          by_cases e : z = (k : Int)
          · rw [e]; exact HGG.out
          · exact HH.out z h1 (by omega))⟩
        case measure => simp [intOf]; omega
      · have HG := Lib.hid (fun W => get_calls x (k : Int) W HX.out)
        rw [show getN x (k : Int) = false from decide_eq_false hg] at HG
        have hfk : f = (k : Int) := HFk.out (k : Int) ((HMem.out (k : Int)).2 ⟨by omega, by omega, hg⟩) (by omega) (fun z hz h1 => by
          obtain ⟨z1, z2, z3⟩ := (HMem.out z).1 hz
          rcases Int.lt_or_le z k with h | h
          · exact absurd (HH.out z (by omega) h) z3
          · exact h)
        have t3 : (f == (k : Int)) = true := by simp [hfk]
        clear hfk hg
        go_wp2_with (go_at_call 14; refine (HG.out _).mono ?_; rintro e w' ⟨rfl, rfl⟩)
        go_ret
        exact ⟨rfl, HQ.out.2⟩
    · have hf1 : f = -1 := HFr.out (fun z hz => by
        obtain ⟨z1, z2, z3⟩ := (HMem.out z).1 hz
        rcases Int.lt_or_le z i with h | h
        · exact h
        · exact absurd (HH.out z (by omega) (by omega)) z3)
      have t3 : (f == -1) = true := by simp [hf1]
      clear hf1
      go_wp2
      go_ret
      exact ⟨rfl, HQ.out.2⟩
theorem rest_row (x i : Int) (w : World) (h : (Lit.int .u64 x).wf = true) (hT : Tb w) : Calls Tryd.prog 6 #[.int .u64 x, .int .i64 i] w fun e w' => e = .returned (.bool true) ∧ Nw w w' := by
  obtain ⟨h0, h1⟩ := u64_bd h
  obtain ⟨n, rfl⟩ := Int.eq_ofNat_of_zero_le h0
  exact rest_calls n i w (by omega) hT
end Go.Proofs.YtkglhinlnkdajaaDoor
