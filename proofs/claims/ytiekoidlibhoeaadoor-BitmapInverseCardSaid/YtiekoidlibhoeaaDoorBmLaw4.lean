/-
  BitmapInverse: rank and select undo each other over all numbers; as many are in a range as its ends' ranks say.
-/
import Derived.IntWalk
import Derived.Test.YtiekoidlibhoeaaDoorBmLaw
import Derived.Test.YtiekoidlibhoeaaDoorBmRow
namespace Go.Proofs.YtiekoidlibhoeaaDoor
open Go.RowKit Go.Shelf Go.Proofs.YtiekoidlibhoeaaDoorW.PrintWords Go.Proofs.YtiekoidlibhoeaaDoorW.PrintMore
set_option linter.unusedVariables false
set_option linter.unusedSimpArgs false

/-- What Select answers: none, or a number that is there and has k below it. -/
theorem sel_inv (B : Nat) (k : Int) : (toldV (selectL (listB 1024 B) k) = .tuple #[.int .u16 0, .bool false] ∧ ¬ (0 ≤ k ∧ k < (segN B 0 65536 : Nat))) ∨
    ∃ v : Nat, v < 65536 ∧ toldV (selectL (listB 1024 B) k) = .tuple #[.int .u16 v, .bool true] ∧ (0 ≤ k ∧ k < (segN B 0 65536 : Nat)) ∧ ((segN B 0 v : Nat) : Int) = k ∧ B.testBit v = true := by
  have hl := len_all16 B
  by_cases h : 0 ≤ k ∧ k < (segN B 0 65536 : Nat)
  · right
    obtain ⟨n, rfl⟩ : ∃ n : Nat, k = n := ⟨k.toNat, by omega⟩
    obtain ⟨h1, h2⟩ := sel_mem (listB_sorted 1024 B) (k := n) (by rw [hl]; omega)
    obtain ⟨h3, h4, h5⟩ := (mem_listB 1024 B _).1 h1
    obtain ⟨v, hv⟩ : ∃ v : Nat, selectL (listB 1024 B) n = v := ⟨(selectL (listB 1024 B) n).toNat, by omega⟩
    rw [hv] at h2 h3 h4 h5 ⊢
    refine ⟨v, by omega, ?_, h, ?_, by simpa using h5⟩
    · unfold toldV; rw [if_neg (by omega), decide_eq_true (by omega)]
    · rw [rank_listB 1024 B v (by omega)] at h2
      omega
  · left
    refine ⟨?_, h⟩
    have : selectL (listB 1024 B) k = -1 := by
      by_cases h0 : 0 ≤ k
      · exact sel_over 1024 B k h0 (by rw [seg_all B 65536 rfl]; omega)
      · unfold selectL; rw [if_pos (by omega)]
    rw [this]; rfl
theorem wipe_cnt (B f t : Nat) (h : f ≤ t) : (stepC B false f (t + 1)).2 + segN B 0 f = segN B 0 t + (if B.testBit t = true then 1 else 0) := by
  have h1 := seg_add B 0 f (t + 1) (by omega) (by omega)
  have h2 := seg_snoc B t
  show segN B f (t + 1) + segN B 0 f = _
  omega
theorem fill_after (B f t : Nat) : (stepC (stepC B false f (t + 1)).1 true f (t + 1)).2 = t + 1 - f := by
  show t + 1 - f - segN (stepC B false f (t + 1)).1 f (t + 1) = _
  have : segN (stepC B false f (t + 1)).1 f (t + 1) = 0 := by
    unfold segN
    rw [bits_nil _ (t + 1 - f) f (fun j hj => by rw [stepC_tb, if_pos (by omega)])]; rfl
  omega

set_option maxRecDepth 100000 in
set_option maxHeartbeats 8000000 in
theorem inv_up (a : Option Addr) (cap : Nat) (l : List Act4) (k : Int) (f t : Nat) (w : World) (hf : f < 65536) (ht : t < 65536) (hft : f ≤ t) (hk2 : k ≤ 9223372036854775807) (hA : AC4 w a l) (hl : l.length ≤ 140737488351232) (hT : Tb w) :
    Calls Tryd.prog 5 #[.slice a l.length cap, .int .i64 k, .int .u16 f, .int .u16 t] w fun e w' => e = .returned (.bool true) ∧ Nw w w' := by
  have HT := Lib.hid hT
  have HA := Lib.hid hA
  have HL := Lib.hid (fun W h => blay_calls a cap l W h hl)
  obtain ⟨B, hB⟩ : ∃ B, B = layB (l.take 10) := ⟨_, rfl⟩
  rw [← hB] at HL
  clear hT hA hB
  have hgt : ¬ (t : Int) < (f : Int) := by omega
  have hle : f ≤ t := by omega
  have KS := Lib.hid (fun b p q W (h : BM W b p q B) (hT : Tb W) => bm_select b p q B k hk2 W h hT)
  have KL := Lib.hid (fun b p q W (h : BM W b p q B) => bm_len b p q B W h)
  have KH := Lib.hid (fun b p q W (h : BM W b p q B) (hT : Tb W) => bm_has b p q B t (by omega) W h hT)
  have K1 := Lib.hid (fun b p q W (h : BM W b p q B) (hT : Tb W) => bm_rank b p q B f (by omega) W h hT)
  have K2 := Lib.hid (fun b p q W (h : BM W b p q B) (hT : Tb W) => bm_rank b p q B t (by omega) W h hT)
  have KW := Lib.hid (fun b p q W (h : BM W b p q B) => bm_wipe b p q B f t W h (by omega) (by omega))
  have hwc := wipe_cnt B f t hle
  have hfa := fill_after B f t
  obtain ⟨⟨C, m⟩, hCm⟩ : ∃ r, r = stepC B false f (t + 1) := ⟨_, rfl⟩
  rw [← hCm] at KW hwc hfa
  simp only at KW hwc hfa
  have KF := Lib.hid (fun b p q W (h : BM W b p q C) => bm_fill b p q C f t W h (by omega) (by omega))
  rw [hfa] at KF
  have hrl := seg_le B 0 f
  have hrh := seg_le B 0 t
  obtain ⟨rl, hrl2⟩ : ∃ x, x = segN B 0 f := ⟨_, rfl⟩
  obtain ⟨rh, hrh2⟩ : ∃ x, x = segN B 0 t := ⟨_, rfl⟩
  obtain ⟨tb, htb⟩ : ∃ x, x = B.testBit t := ⟨_, rfl⟩
  rw [← hrl2] at K1 hwc hrl
  rw [← hrh2] at K2 hwc hrh
  rw [← htb] at KH hwc
  obtain ⟨fc, hfc⟩ : ∃ x, x = t + 1 - f := ⟨_, rfl⟩
  rw [← hfc] at KF
  have e3 : (t : Int) - (f : Int) + 1 = (fc : Int) := by omega
  have hrl65 : rl ≤ 65536 := by omega
  have hrh65 : rh ≤ 65536 := by omega
  have hm65 : m ≤ 131073 := by split at hwc <;> omega
  have hsel := sel_inv B k
  have hn65 := seg_le B 0 65536
  obtain ⟨n, hn⟩ : ∃ n, n = segN B 0 65536 := ⟨_, rfl⟩
  rw [← hn] at KL hsel hn65
  clear hCm hrl2 hrh2 htb hfa hfc hrl hrh hn
  rcases hsel with ⟨h1, h2⟩ | ⟨v, hv, h1, h2, h3, h4⟩
  · rw [h1] at KS
    clear h1
    have HWc := Lib.hid hwc
    clear hwc hft
    by_cases hk0 : 0 ≤ k
    · have hkn : ¬ k < (n : Int) := fun h => h2 ⟨hk0, h⟩
      clear h2
      cases tb
      all_goals
        have hw2 := HWc.out
        simp at hw2
        have hw3 : (m : Int) + (rl : Int) ≤ (rh : Int) + 1 := by omega
        have hw4 : (rh : Int) ≤ (m : Int) + (rl : Int) := by omega
        first | (have e4 : (rh : Int) - (rl : Int) = (m : Int) := by omega) | (have e4 : (rh : Int) - (rl : Int) + 1 = (m : Int) := by omega)
        clear hw2 hw3 hw4
        go_enter Tryd.func5, Tryd.ntmps5
        go_wp2_with (first
          | (go_at_call 8; refine (bmawake_calls w HT.out).mono ?_; rintro e w1 ⟨rfl, hN1⟩; have HN1 := Lib.hid hN1; clear hN1)
          | (go_at_call 16; refine (HL.out _ (HA.out.nw HN1.out)).mono ?_; rintro e w2 ⟨b, p, q, s, c, rfl, hbq, hM, hS, hN⟩; have HN2 := Lib.hid (HN1.out.trans hN); have HM2 := Lib.hid hM; have HBQ := Lib.hid hbq; clear hN hS hM hbq)
          | (go_at_call 19; refine (KS.out b p q _ HM2.out (HT.out.step HN2.out)).mono ?_; rintro e w2 ⟨rfl, hN⟩; have HN2 := Lib.hid (HN2.out.trans hN); have HM2 := Lib.hid (HM2.out.nw hN); clear hN)
          | (go_at_call 15; refine (KL.out b p q _ HM2.out).mono ?_; rintro e w2' ⟨rfl, rfl⟩)
          | (go_at_call 20; (with_reducible refine Calls.mono (K2.out b p q _ HM2.out (HT.out.step HN2.out)) ?_); rintro e w2 ⟨rfl, hN⟩; have HN2 := Lib.hid (HN2.out.trans hN); have HM2 := Lib.hid (HM2.out.nw hN); clear hN)
          | (go_at_call 20; (with_reducible refine Calls.mono (K1.out b p q _ HM2.out (HT.out.step HN2.out)) ?_); rintro e w2 ⟨rfl, hN⟩; have HN2 := Lib.hid (HN2.out.trans hN); have HM2 := Lib.hid (HM2.out.nw hN); clear hN)
          | (go_at_call 21; (with_reducible refine Calls.mono (KH.out b p q _ HM2.out (HT.out.step HN2.out)) ?_); rintro e w2 ⟨rfl, hN⟩; have HN2 := Lib.hid (HN2.out.trans hN); have HM2 := Lib.hid (HM2.out.nw hN); clear hN)
          | (go_at_call 22; refine (KW.out b p q _ HM2.out).mono ?_; rintro e w8 ⟨rfl, hM, hF⟩; have HN8 := Lib.hid (HN2.out.trans_of hF (fun y hy h => by have := HBQ.out; have := HN1.out.size; rcases h with rfl | rfl <;> omega)); have HM8 := Lib.hid hM; clear hM hF)
          | (go_at_call 23; refine (KF.out b p q _ HM8.out).mono ?_; rintro e w9 ⟨rfl, hM, hF⟩; have HN9 := Lib.hid (HN8.out.trans_of hF (fun y hy h => by have := HBQ.out; have := HN1.out.size; rcases h with rfl | rfl <;> omega)); clear hM hF)
          | (fail))
        go_ret
        exact ⟨ret_bool (by simp), HN9.out⟩
    · clear h2
      cases tb
      all_goals
        have hw2 := HWc.out
        simp at hw2
        have hw3 : (m : Int) + (rl : Int) ≤ (rh : Int) + 1 := by omega
        have hw4 : (rh : Int) ≤ (m : Int) + (rl : Int) := by omega
        first | (have e4 : (rh : Int) - (rl : Int) = (m : Int) := by omega) | (have e4 : (rh : Int) - (rl : Int) + 1 = (m : Int) := by omega)
        clear hw2 hw3 hw4
        go_enter Tryd.func5, Tryd.ntmps5
        go_wp2_with (first
          | (go_at_call 8; refine (bmawake_calls w HT.out).mono ?_; rintro e w1 ⟨rfl, hN1⟩; have HN1 := Lib.hid hN1; clear hN1)
          | (go_at_call 16; refine (HL.out _ (HA.out.nw HN1.out)).mono ?_; rintro e w2 ⟨b, p, q, s, c, rfl, hbq, hM, hS, hN⟩; have HN2 := Lib.hid (HN1.out.trans hN); have HM2 := Lib.hid hM; have HBQ := Lib.hid hbq; clear hN hS hM hbq)
          | (go_at_call 19; refine (KS.out b p q _ HM2.out (HT.out.step HN2.out)).mono ?_; rintro e w2 ⟨rfl, hN⟩; have HN2 := Lib.hid (HN2.out.trans hN); have HM2 := Lib.hid (HM2.out.nw hN); clear hN)
          | (go_at_call 15; refine (KL.out b p q _ HM2.out).mono ?_; rintro e w2' ⟨rfl, rfl⟩)
          | (go_at_call 20; (with_reducible refine Calls.mono (K2.out b p q _ HM2.out (HT.out.step HN2.out)) ?_); rintro e w2 ⟨rfl, hN⟩; have HN2 := Lib.hid (HN2.out.trans hN); have HM2 := Lib.hid (HM2.out.nw hN); clear hN)
          | (go_at_call 20; (with_reducible refine Calls.mono (K1.out b p q _ HM2.out (HT.out.step HN2.out)) ?_); rintro e w2 ⟨rfl, hN⟩; have HN2 := Lib.hid (HN2.out.trans hN); have HM2 := Lib.hid (HM2.out.nw hN); clear hN)
          | (go_at_call 21; (with_reducible refine Calls.mono (KH.out b p q _ HM2.out (HT.out.step HN2.out)) ?_); rintro e w2 ⟨rfl, hN⟩; have HN2 := Lib.hid (HN2.out.trans hN); have HM2 := Lib.hid (HM2.out.nw hN); clear hN)
          | (go_at_call 22; refine (KW.out b p q _ HM2.out).mono ?_; rintro e w8 ⟨rfl, hM, hF⟩; have HN8 := Lib.hid (HN2.out.trans_of hF (fun y hy h => by have := HBQ.out; have := HN1.out.size; rcases h with rfl | rfl <;> omega)); have HM8 := Lib.hid hM; clear hM hF)
          | (go_at_call 23; refine (KF.out b p q _ HM8.out).mono ?_; rintro e w9 ⟨rfl, hM, hF⟩; have HN9 := Lib.hid (HN8.out.trans_of hF (fun y hy h => by have := HBQ.out; have := HN1.out.size; rcases h with rfl | rfl <;> omega)); clear hM hF)
          | (fail))
        go_ret
        exact ⟨ret_bool (by simp), HN9.out⟩
  · rw [h1] at KS
    clear h1
    have HWc := Lib.hid hwc
    clear hwc hft
    have K3 := Lib.hid (fun b p q W (h : BM W b p q B) (hT : Tb W) => bm_rank b p q B v hv W h hT)
    have K4 := Lib.hid (fun b p q W (h : BM W b p q B) (hT : Tb W) => bm_has b p q B v hv W h hT)
    rw [h4] at K4
    obtain ⟨rk, hrk⟩ : ∃ x, x = segN B 0 v := ⟨_, rfl⟩
    rw [← hrk] at K3 h3
    subst h3
    obtain ⟨hk0, hkn⟩ := h2
    have hkn2 : rk < n := by omega
    clear hrk h4
    cases tb
    all_goals
        have hw2 := HWc.out
        simp at hw2
        have hw3 : (m : Int) + (rl : Int) ≤ (rh : Int) + 1 := by omega
        have hw4 : (rh : Int) ≤ (m : Int) + (rl : Int) := by omega
        first | (have e4 : (rh : Int) - (rl : Int) = (m : Int) := by omega) | (have e4 : (rh : Int) - (rl : Int) + 1 = (m : Int) := by omega)
        clear hw2 hw3 hw4
        go_enter Tryd.func5, Tryd.ntmps5
        go_wp2_with (first
          | (go_at_call 8; refine (bmawake_calls w HT.out).mono ?_; rintro e w1 ⟨rfl, hN1⟩; have HN1 := Lib.hid hN1; clear hN1)
          | (go_at_call 16; refine (HL.out _ (HA.out.nw HN1.out)).mono ?_; rintro e w2 ⟨b, p, q, s, c, rfl, hbq, hM, hS, hN⟩; have HN2 := Lib.hid (HN1.out.trans hN); have HM2 := Lib.hid hM; have HBQ := Lib.hid hbq; clear hN hS hM hbq)
          | (go_at_call 19; refine (KS.out b p q _ HM2.out (HT.out.step HN2.out)).mono ?_; rintro e w2 ⟨rfl, hN⟩; have HN2 := Lib.hid (HN2.out.trans hN); have HM2 := Lib.hid (HM2.out.nw hN); clear hN)
          | (go_at_call 15; refine (KL.out b p q _ HM2.out).mono ?_; rintro e w2' ⟨rfl, rfl⟩)
          | (go_at_call 20; (with_reducible refine Calls.mono (K2.out b p q _ HM2.out (HT.out.step HN2.out)) ?_); rintro e w2 ⟨rfl, hN⟩; have HN2 := Lib.hid (HN2.out.trans hN); have HM2 := Lib.hid (HM2.out.nw hN); clear hN)
          | (go_at_call 20; (with_reducible refine Calls.mono (K1.out b p q _ HM2.out (HT.out.step HN2.out)) ?_); rintro e w2 ⟨rfl, hN⟩; have HN2 := Lib.hid (HN2.out.trans hN); have HM2 := Lib.hid (HM2.out.nw hN); clear hN)
          | (go_at_call 21; (with_reducible refine Calls.mono (KH.out b p q _ HM2.out (HT.out.step HN2.out)) ?_); rintro e w2 ⟨rfl, hN⟩; have HN2 := Lib.hid (HN2.out.trans hN); have HM2 := Lib.hid (HM2.out.nw hN); clear hN)
          | (go_at_call 22; refine (KW.out b p q _ HM2.out).mono ?_; rintro e w8 ⟨rfl, hM, hF⟩; have HN8 := Lib.hid (HN2.out.trans_of hF (fun y hy h => by have := HBQ.out; have := HN1.out.size; rcases h with rfl | rfl <;> omega)); have HM8 := Lib.hid hM; clear hM hF)
          | (go_at_call 23; refine (KF.out b p q _ HM8.out).mono ?_; rintro e w9 ⟨rfl, hM, hF⟩; have HN9 := Lib.hid (HN8.out.trans_of hF (fun y hy h => by have := HBQ.out; have := HN1.out.size; rcases h with rfl | rfl <;> omega)); clear hM hF)
          | (go_at_call 20; (with_reducible refine Calls.mono (K3.out b p q _ HM2.out (HT.out.step HN2.out)) ?_); rintro e w2 ⟨rfl, hN⟩; have HN2 := Lib.hid (HN2.out.trans hN); have HM2 := Lib.hid (HM2.out.nw hN); clear hN) | (go_at_call 21; (with_reducible refine Calls.mono (K4.out b p q _ HM2.out (HT.out.step HN2.out)) ?_); rintro e w2 ⟨rfl, hN⟩; have HN2 := Lib.hid (HN2.out.trans hN); have HM2 := Lib.hid (HM2.out.nw hN); clear hN))
        go_ret
        exact ⟨ret_bool (by simp), HN9.out⟩
set_option maxRecDepth 100000 in
set_option maxHeartbeats 8000000 in
theorem inv_down (a : Option Addr) (cap : Nat) (l : List Act4) (k : Int) (f t : Nat) (w : World) (hf : f < 65536) (ht : t < 65536) (hft : t < f) (hk2 : k ≤ 9223372036854775807) (hA : AC4 w a l) (hl : l.length ≤ 140737488351232) (hT : Tb w) :
    Calls Tryd.prog 5 #[.slice a l.length cap, .int .i64 k, .int .u16 f, .int .u16 t] w fun e w' => e = .returned (.bool true) ∧ Nw w w' := by
  have HT := Lib.hid hT
  have HA := Lib.hid hA
  have HL := Lib.hid (fun W h => blay_calls a cap l W h hl)
  obtain ⟨B, hB⟩ : ∃ B, B = layB (l.take 10) := ⟨_, rfl⟩
  rw [← hB] at HL
  clear hT hA hB
  have hgt : (t : Int) < (f : Int) := by omega
  have hle : t ≤ f := by omega
  have KS := Lib.hid (fun b p q W (h : BM W b p q B) (hT : Tb W) => bm_select b p q B k hk2 W h hT)
  have KL := Lib.hid (fun b p q W (h : BM W b p q B) => bm_len b p q B W h)
  have KH := Lib.hid (fun b p q W (h : BM W b p q B) (hT : Tb W) => bm_has b p q B f (by omega) W h hT)
  have K1 := Lib.hid (fun b p q W (h : BM W b p q B) (hT : Tb W) => bm_rank b p q B t (by omega) W h hT)
  have K2 := Lib.hid (fun b p q W (h : BM W b p q B) (hT : Tb W) => bm_rank b p q B f (by omega) W h hT)
  have KW := Lib.hid (fun b p q W (h : BM W b p q B) => bm_wipe b p q B t f W h (by omega) (by omega))
  have hwc := wipe_cnt B t f hle
  have hfa := fill_after B t f
  obtain ⟨⟨C, m⟩, hCm⟩ : ∃ r, r = stepC B false t (f + 1) := ⟨_, rfl⟩
  rw [← hCm] at KW hwc hfa
  simp only at KW hwc hfa
  have KF := Lib.hid (fun b p q W (h : BM W b p q C) => bm_fill b p q C t f W h (by omega) (by omega))
  rw [hfa] at KF
  have hrl := seg_le B 0 t
  have hrh := seg_le B 0 f
  obtain ⟨rl, hrl2⟩ : ∃ x, x = segN B 0 t := ⟨_, rfl⟩
  obtain ⟨rh, hrh2⟩ : ∃ x, x = segN B 0 f := ⟨_, rfl⟩
  obtain ⟨tb, htb⟩ : ∃ x, x = B.testBit f := ⟨_, rfl⟩
  rw [← hrl2] at K1 hwc hrl
  rw [← hrh2] at K2 hwc hrh
  rw [← htb] at KH hwc
  obtain ⟨fc, hfc⟩ : ∃ x, x = f + 1 - t := ⟨_, rfl⟩
  rw [← hfc] at KF
  have e3 : (f : Int) - (t : Int) + 1 = (fc : Int) := by omega
  have hrl65 : rl ≤ 65536 := by omega
  have hrh65 : rh ≤ 65536 := by omega
  have hm65 : m ≤ 131073 := by split at hwc <;> omega
  have hsel := sel_inv B k
  have hn65 := seg_le B 0 65536
  obtain ⟨n, hn⟩ : ∃ n, n = segN B 0 65536 := ⟨_, rfl⟩
  rw [← hn] at KL hsel hn65
  clear hCm hrl2 hrh2 htb hfa hfc hrl hrh hn
  rcases hsel with ⟨h1, h2⟩ | ⟨v, hv, h1, h2, h3, h4⟩
  · rw [h1] at KS
    clear h1
    have HWc := Lib.hid hwc
    clear hwc hft
    by_cases hk0 : 0 ≤ k
    · have hkn : ¬ k < (n : Int) := fun h => h2 ⟨hk0, h⟩
      clear h2
      cases tb
      all_goals
        have hw2 := HWc.out
        simp at hw2
        have hw3 : (m : Int) + (rl : Int) ≤ (rh : Int) + 1 := by omega
        have hw4 : (rh : Int) ≤ (m : Int) + (rl : Int) := by omega
        first | (have e4 : (rh : Int) - (rl : Int) = (m : Int) := by omega) | (have e4 : (rh : Int) - (rl : Int) + 1 = (m : Int) := by omega)
        clear hw2 hw3 hw4
        go_enter Tryd.func5, Tryd.ntmps5
        go_wp2_with (first
          | (go_at_call 8; refine (bmawake_calls w HT.out).mono ?_; rintro e w1 ⟨rfl, hN1⟩; have HN1 := Lib.hid hN1; clear hN1)
          | (go_at_call 16; refine (HL.out _ (HA.out.nw HN1.out)).mono ?_; rintro e w2 ⟨b, p, q, s, c, rfl, hbq, hM, hS, hN⟩; have HN2 := Lib.hid (HN1.out.trans hN); have HM2 := Lib.hid hM; have HBQ := Lib.hid hbq; clear hN hS hM hbq)
          | (go_at_call 19; refine (KS.out b p q _ HM2.out (HT.out.step HN2.out)).mono ?_; rintro e w2 ⟨rfl, hN⟩; have HN2 := Lib.hid (HN2.out.trans hN); have HM2 := Lib.hid (HM2.out.nw hN); clear hN)
          | (go_at_call 15; refine (KL.out b p q _ HM2.out).mono ?_; rintro e w2' ⟨rfl, rfl⟩)
          | (go_at_call 20; (with_reducible refine Calls.mono (K2.out b p q _ HM2.out (HT.out.step HN2.out)) ?_); rintro e w2 ⟨rfl, hN⟩; have HN2 := Lib.hid (HN2.out.trans hN); have HM2 := Lib.hid (HM2.out.nw hN); clear hN)
          | (go_at_call 20; (with_reducible refine Calls.mono (K1.out b p q _ HM2.out (HT.out.step HN2.out)) ?_); rintro e w2 ⟨rfl, hN⟩; have HN2 := Lib.hid (HN2.out.trans hN); have HM2 := Lib.hid (HM2.out.nw hN); clear hN)
          | (go_at_call 21; (with_reducible refine Calls.mono (KH.out b p q _ HM2.out (HT.out.step HN2.out)) ?_); rintro e w2 ⟨rfl, hN⟩; have HN2 := Lib.hid (HN2.out.trans hN); have HM2 := Lib.hid (HM2.out.nw hN); clear hN)
          | (go_at_call 22; refine (KW.out b p q _ HM2.out).mono ?_; rintro e w8 ⟨rfl, hM, hF⟩; have HN8 := Lib.hid (HN2.out.trans_of hF (fun y hy h => by have := HBQ.out; have := HN1.out.size; rcases h with rfl | rfl <;> omega)); have HM8 := Lib.hid hM; clear hM hF)
          | (go_at_call 23; refine (KF.out b p q _ HM8.out).mono ?_; rintro e w9 ⟨rfl, hM, hF⟩; have HN9 := Lib.hid (HN8.out.trans_of hF (fun y hy h => by have := HBQ.out; have := HN1.out.size; rcases h with rfl | rfl <;> omega)); clear hM hF)
          | (fail))
        go_ret
        exact ⟨ret_bool (by simp), HN9.out⟩
    · clear h2
      cases tb
      all_goals
        have hw2 := HWc.out
        simp at hw2
        have hw3 : (m : Int) + (rl : Int) ≤ (rh : Int) + 1 := by omega
        have hw4 : (rh : Int) ≤ (m : Int) + (rl : Int) := by omega
        first | (have e4 : (rh : Int) - (rl : Int) = (m : Int) := by omega) | (have e4 : (rh : Int) - (rl : Int) + 1 = (m : Int) := by omega)
        clear hw2 hw3 hw4
        go_enter Tryd.func5, Tryd.ntmps5
        go_wp2_with (first
          | (go_at_call 8; refine (bmawake_calls w HT.out).mono ?_; rintro e w1 ⟨rfl, hN1⟩; have HN1 := Lib.hid hN1; clear hN1)
          | (go_at_call 16; refine (HL.out _ (HA.out.nw HN1.out)).mono ?_; rintro e w2 ⟨b, p, q, s, c, rfl, hbq, hM, hS, hN⟩; have HN2 := Lib.hid (HN1.out.trans hN); have HM2 := Lib.hid hM; have HBQ := Lib.hid hbq; clear hN hS hM hbq)
          | (go_at_call 19; refine (KS.out b p q _ HM2.out (HT.out.step HN2.out)).mono ?_; rintro e w2 ⟨rfl, hN⟩; have HN2 := Lib.hid (HN2.out.trans hN); have HM2 := Lib.hid (HM2.out.nw hN); clear hN)
          | (go_at_call 15; refine (KL.out b p q _ HM2.out).mono ?_; rintro e w2' ⟨rfl, rfl⟩)
          | (go_at_call 20; (with_reducible refine Calls.mono (K2.out b p q _ HM2.out (HT.out.step HN2.out)) ?_); rintro e w2 ⟨rfl, hN⟩; have HN2 := Lib.hid (HN2.out.trans hN); have HM2 := Lib.hid (HM2.out.nw hN); clear hN)
          | (go_at_call 20; (with_reducible refine Calls.mono (K1.out b p q _ HM2.out (HT.out.step HN2.out)) ?_); rintro e w2 ⟨rfl, hN⟩; have HN2 := Lib.hid (HN2.out.trans hN); have HM2 := Lib.hid (HM2.out.nw hN); clear hN)
          | (go_at_call 21; (with_reducible refine Calls.mono (KH.out b p q _ HM2.out (HT.out.step HN2.out)) ?_); rintro e w2 ⟨rfl, hN⟩; have HN2 := Lib.hid (HN2.out.trans hN); have HM2 := Lib.hid (HM2.out.nw hN); clear hN)
          | (go_at_call 22; refine (KW.out b p q _ HM2.out).mono ?_; rintro e w8 ⟨rfl, hM, hF⟩; have HN8 := Lib.hid (HN2.out.trans_of hF (fun y hy h => by have := HBQ.out; have := HN1.out.size; rcases h with rfl | rfl <;> omega)); have HM8 := Lib.hid hM; clear hM hF)
          | (go_at_call 23; refine (KF.out b p q _ HM8.out).mono ?_; rintro e w9 ⟨rfl, hM, hF⟩; have HN9 := Lib.hid (HN8.out.trans_of hF (fun y hy h => by have := HBQ.out; have := HN1.out.size; rcases h with rfl | rfl <;> omega)); clear hM hF)
          | (fail))
        go_ret
        exact ⟨ret_bool (by simp), HN9.out⟩
  · rw [h1] at KS
    clear h1
    have HWc := Lib.hid hwc
    clear hwc hft
    have K3 := Lib.hid (fun b p q W (h : BM W b p q B) (hT : Tb W) => bm_rank b p q B v hv W h hT)
    have K4 := Lib.hid (fun b p q W (h : BM W b p q B) (hT : Tb W) => bm_has b p q B v hv W h hT)
    rw [h4] at K4
    obtain ⟨rk, hrk⟩ : ∃ x, x = segN B 0 v := ⟨_, rfl⟩
    rw [← hrk] at K3 h3
    subst h3
    obtain ⟨hk0, hkn⟩ := h2
    have hkn2 : rk < n := by omega
    clear hrk h4
    cases tb
    all_goals
        have hw2 := HWc.out
        simp at hw2
        have hw3 : (m : Int) + (rl : Int) ≤ (rh : Int) + 1 := by omega
        have hw4 : (rh : Int) ≤ (m : Int) + (rl : Int) := by omega
        first | (have e4 : (rh : Int) - (rl : Int) = (m : Int) := by omega) | (have e4 : (rh : Int) - (rl : Int) + 1 = (m : Int) := by omega)
        clear hw2 hw3 hw4
        go_enter Tryd.func5, Tryd.ntmps5
        go_wp2_with (first
          | (go_at_call 8; refine (bmawake_calls w HT.out).mono ?_; rintro e w1 ⟨rfl, hN1⟩; have HN1 := Lib.hid hN1; clear hN1)
          | (go_at_call 16; refine (HL.out _ (HA.out.nw HN1.out)).mono ?_; rintro e w2 ⟨b, p, q, s, c, rfl, hbq, hM, hS, hN⟩; have HN2 := Lib.hid (HN1.out.trans hN); have HM2 := Lib.hid hM; have HBQ := Lib.hid hbq; clear hN hS hM hbq)
          | (go_at_call 19; refine (KS.out b p q _ HM2.out (HT.out.step HN2.out)).mono ?_; rintro e w2 ⟨rfl, hN⟩; have HN2 := Lib.hid (HN2.out.trans hN); have HM2 := Lib.hid (HM2.out.nw hN); clear hN)
          | (go_at_call 15; refine (KL.out b p q _ HM2.out).mono ?_; rintro e w2' ⟨rfl, rfl⟩)
          | (go_at_call 20; (with_reducible refine Calls.mono (K2.out b p q _ HM2.out (HT.out.step HN2.out)) ?_); rintro e w2 ⟨rfl, hN⟩; have HN2 := Lib.hid (HN2.out.trans hN); have HM2 := Lib.hid (HM2.out.nw hN); clear hN)
          | (go_at_call 20; (with_reducible refine Calls.mono (K1.out b p q _ HM2.out (HT.out.step HN2.out)) ?_); rintro e w2 ⟨rfl, hN⟩; have HN2 := Lib.hid (HN2.out.trans hN); have HM2 := Lib.hid (HM2.out.nw hN); clear hN)
          | (go_at_call 21; (with_reducible refine Calls.mono (KH.out b p q _ HM2.out (HT.out.step HN2.out)) ?_); rintro e w2 ⟨rfl, hN⟩; have HN2 := Lib.hid (HN2.out.trans hN); have HM2 := Lib.hid (HM2.out.nw hN); clear hN)
          | (go_at_call 22; refine (KW.out b p q _ HM2.out).mono ?_; rintro e w8 ⟨rfl, hM, hF⟩; have HN8 := Lib.hid (HN2.out.trans_of hF (fun y hy h => by have := HBQ.out; have := HN1.out.size; rcases h with rfl | rfl <;> omega)); have HM8 := Lib.hid hM; clear hM hF)
          | (go_at_call 23; refine (KF.out b p q _ HM8.out).mono ?_; rintro e w9 ⟨rfl, hM, hF⟩; have HN9 := Lib.hid (HN8.out.trans_of hF (fun y hy h => by have := HBQ.out; have := HN1.out.size; rcases h with rfl | rfl <;> omega)); clear hM hF)
          | (go_at_call 20; (with_reducible refine Calls.mono (K3.out b p q _ HM2.out (HT.out.step HN2.out)) ?_); rintro e w2 ⟨rfl, hN⟩; have HN2 := Lib.hid (HN2.out.trans hN); have HM2 := Lib.hid (HM2.out.nw hN); clear hN) | (go_at_call 21; (with_reducible refine Calls.mono (K4.out b p q _ HM2.out (HT.out.step HN2.out)) ?_); rintro e w2 ⟨rfl, hN⟩; have HN2 := Lib.hid (HN2.out.trans hN); have HM2 := Lib.hid (HM2.out.nw hN); clear hN))
        go_ret
        exact ⟨ret_bool (by simp), HN9.out⟩

theorem bminv_row (a : Option Addr) (cap : Nat) (l : List Act4) (k x y : Int) (w : World) (hk : (Lit.int .i64 k).wf = true) (hx : (Lit.int .u16 x).wf = true) (hy : (Lit.int .u16 y).wf = true) (hA : AC4 w a l) (hl : l.length ≤ 140737488351232) (hT : Tb w) :
    Calls Tryd.prog 5 #[.slice a l.length cap, .int .i64 k, .int .u16 x, .int .u16 y] w fun e w' => e = .returned (.bool true) ∧ Nw w w' := by
  have h1 := u16_bd hx
  have h2 := u16_bd hy
  have h3 := i64_bd hk
  obtain ⟨f, rfl⟩ : ∃ b : Nat, x = b := ⟨x.toNat, by omega⟩
  obtain ⟨t, rfl⟩ : ∃ b : Nat, y = b := ⟨y.toNat, by omega⟩
  by_cases h0 : f ≤ t
  · exact inv_up a cap l k f t w (by omega) (by omega) h0 h3.2 hA hl hT
  · exact inv_down a cap l k f t w (by omega) (by omega) (by omega) h3.2 hA hl hT

end Go.Proofs.YtiekoidlibhoeaaDoor
