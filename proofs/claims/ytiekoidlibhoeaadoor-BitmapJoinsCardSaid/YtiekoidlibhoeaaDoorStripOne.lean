/-
  The contracts of strip's single-bit methods: there, Get, Set, Clear, Count.
-/
import Derived.Test.YtiekoidlibhoeaaDoorStripRun
namespace Go.Proofs.YtiekoidlibhoeaaDoor
open Go.RowKit Go.Shelf Go.Proofs.YtiekoidlibhoeaaDoorW.PrintWords Go.Proofs.YtiekoidlibhoeaaDoorW.PrintMore
set_option linter.unusedVariables false
set_option linter.unusedSimpArgs false

def inB (n : Nat) (i : Int) : Bool := decide (0 ≤ i ∧ i < 64 * n)
def getB (n B : Nat) (i : Int) : Bool := inB n i && B.testBit i.toNat
def setB (n B : Nat) (i : Int) : Nat := if inB n i then fillN B i.toNat (i.toNat + 1) else B
def clrB (n B : Nat) (i : Int) : Nat := if inB n i then wipeN B i.toNat (i.toNat + 1) else B

theorem set_word (B k : Nat) : wordN (fillN B k (k + 1)) (k / 64) = setN (wordN B (k / 64)) ((k : Int) % 64) := by
  apply Nat.eq_of_testBit_eq; intro j
  rw [tb_wordN, tb_fill, setN, Nat.testBit_or, tb_wordN, tb_oneN]
  by_cases hj : j < 64
  · simp only [hj, decide_true, Bool.true_and, and_true]
    congr 1
    apply decide_eq_decide.2; omega
  · simp [hj]
theorem clr_word (B k : Nat) : wordN (wipeN B k (k + 1)) (k / 64) = clrN (wordN B (k / 64)) ((k : Int) % 64) := by
  apply Nat.eq_of_testBit_eq; intro j
  rw [tb_wordN, tb_wipe, clrN, Nat.testBit_and, tb_wordN, tb_notN _ (oneN_lt _), tb_oneN]
  by_cases hj : j < 64
  · simp only [hj, decide_true, Bool.true_and, and_true]
    congr 2
    apply decide_eq_decide.2; omega
  · simp [hj]
theorem get_word (B k : Nat) : getN (wordN B (k / 64)) ((k : Int) % 64) = B.testBit k := by
  rw [getN, hasL, Bool.eq_iff_iff, decide_eq_true_iff, mem_listW, tb_wordN]
  rw [show 64 * (k / 64) + ((k : Int) % 64).toNat = k by omega, Bool.and_eq_true, decide_eq_true_iff]
  constructor
  · rintro ⟨_, _, _, h⟩; exact h
  · intro h; exact ⟨by omega, by omega, by omega, h⟩

set_option maxHeartbeats 1000000 in
theorem sthere_calls (P : Option Addr) (q n B : Nat) (i : Int) (w : World) (h : SP w P q n B) :
    Calls Tryd.prog 70 #[.pointer P, .int .i64 i] w fun e w' => e = .returned (.bool (inB n i)) ∧ w = w' := by
  have HB := Lib.hid (pbits_calls P q n B w h)
  clear h
  go_enter Tryd.func70, Tryd.ntmps70
  by_cases h0 : 0 ≤ i
  · go_wp2_with (go_at_call 72; refine HB.out.mono ?_; rintro e w' ⟨rfl, rfl⟩)
    go_ret
    exact ⟨ret_bool (by simp [inB, h0]), rfl⟩
  · go_wp2_with (go_at_call 72; refine HB.out.mono ?_; rintro e w' ⟨rfl, rfl⟩)
    go_ret
    exact ⟨ret_bool (by rw [inB, decide_eq_false (by omega)]), rfl⟩

set_option maxRecDepth 100000 in
set_option maxHeartbeats 1000000 in
theorem sget_calls (P : Option Addr) (q n B : Nat) (i : Int) (w : World) (h : SP w P q n B) :
    Calls Tryd.prog 48 #[.pointer P, .int .i64 i] w fun e w' => e = .returned (.bool (getB n B i)) ∧ w = w' := by
  have HT := Lib.hid (sthere_calls P q n B i w h)
  by_cases hr : inB n i = true
  · rw [hr] at HT
    obtain ⟨h0, h1⟩ := of_decide_eq_true hr
    have hg : getB n B i = B.testBit i.toNat := by rw [getB, hr]; rfl
    obtain ⟨k, rfl⟩ : ∃ k : Nat, i = k := ⟨i.toNat, by omega⟩
    obtain ⟨p, rfl, hS⟩ := h.pos (by omega)
    obtain ⟨c, hw1, hw2, hw3⟩ := hS.word (k := k / 64) (by omega)
    have hn := h.le
    have hk2 : (k : Int) / 64 < n := by omega
    have hwl := wordN_lt B (k / 64)
    rw [hg, ← show getN (wordN B (k / 64)) ((k : Int) % 64) = B.testBit (k : Int).toNat from get_word B k]
    have HG := Lib.hid (get_calls (wordN B (k / 64)) ((k : Int) % 64) w hwl)
    obtain ⟨wd, hwd⟩ : ∃ wd, wd = wordN B (k / 64) := ⟨_, rfl⟩
    rw [← hwd] at hw2 HG ⊢
    clear hwd hS hg h hr hwl
    go_enter Tryd.func48, Tryd.ntmps48
    go_wp2_with (first | (go_at_call 70; refine HT.out.mono ?_; rintro e w' ⟨rfl, rfl⟩) | (go_at_call 71; refine HG.out.mono ?_; rintro e w' ⟨rfl, rfl⟩))
    go_ret
    exact ⟨rfl, rfl⟩
  · have hf : inB n i = false := by simpa using hr
    rw [hf] at HT
    rw [getB, hf, Bool.false_and]
    clear hr hf h
    go_enter Tryd.func48, Tryd.ntmps48
    go_wp2_with (go_at_call 70; refine HT.out.mono ?_; rintro e w' ⟨rfl, rfl⟩)
    go_ret
    exact ⟨rfl, rfl⟩

set_option maxRecDepth 100000 in
set_option maxHeartbeats 1000000 in
theorem sset_calls (P : Option Addr) (q n B : Nat) (i : Int) (w : World) (h : SP w P q n B) :
    Calls Tryd.prog 54 #[.pointer P, .int .i64 i] w fun e w' => e = .returned (.bool (inB n i && !B.testBit i.toNat)) ∧ SP w' P q n (setB n B i) ∧ Fr (One q) w w' := by
  have HT := Lib.hid (sthere_calls P q n B i w h)
  have HG := Lib.hid (sget_calls P q n B i w h)
  have HS := Lib.hid h
  by_cases hr : inB n i = true
  · cases ht : B.testBit i.toNat with
    | true =>
      have hg : getB n B i = true := by rw [getB, hr, ht]; rfl
      rw [show setB n B i = B by rw [setB, if_pos hr, fill_same _ _ ht], hr]
      rw [hr] at HT
      rw [hg] at HG
      clear hr hg ht h
      go_enter Tryd.func54, Tryd.ntmps54
      go_wp2_with (first | (go_at_call 70; refine HT.out.mono ?_; rintro e w' ⟨rfl, rfl⟩) | (go_at_call 48; refine HG.out.mono ?_; rintro e w' ⟨rfl, rfl⟩))
      go_ret
      exact ⟨rfl, HS.out, Fr.refl _ _⟩
    | false =>
      obtain ⟨h0, h1⟩ := of_decide_eq_true hr
      have hg : getB n B i = false := by rw [getB, hr, ht]; rfl
      rw [show setB n B i = fillN B i.toNat (i.toNat + 1) by rw [setB, if_pos hr], hr]
      rw [hr] at HT
      rw [hg] at HG
      obtain ⟨k, rfl⟩ : ∃ k : Nat, i = k := ⟨i.toNat, by omega⟩
      have HP := Lib.hid (fun (W : World) (hW : SP W P q n B) => hW.put (k := k / 64) (by omega) (fill_lt hW.lt (a := k) (b := k + 1) (by omega)) (set_word B k) (fun j hj => fill_other B (k / 64) j k (k + 1) (by omega) (by omega) hj))
      obtain ⟨p, rfl, hS⟩ := h.pos (by omega)
      obtain ⟨c, hw1, hw2, hw3⟩ := hS.word (k := k / 64) (by omega)
      have hn := h.le
      have hk2 : (k : Int) / 64 < n := by omega
      have hwl := wordN_lt B (k / 64)
      have HC := Lib.hid (fun w => set_calls (wordN B (k / 64)) ((k : Int) % 64) w hwl)
      obtain ⟨v, hv⟩ : ∃ v, v = setN (wordN B (k / 64)) ((k : Int) % 64) := ⟨_, rfl⟩
      rw [← hv] at HC HP
      obtain ⟨wd, hwd⟩ : ∃ wd, wd = wordN B (k / 64) := ⟨_, rfl⟩
      rw [← hwd] at hw2 HC
      clear hwd hS hg h hr hwl ht hv
      go_enter Tryd.func54, Tryd.ntmps54
      go_wp2_with (first | (go_at_call 70; refine HT.out.mono ?_; rintro e w' ⟨rfl, rfl⟩) | (go_at_call 48; refine HG.out.mono ?_; rintro e w' ⟨rfl, rfl⟩))
      have e1 : IntKind.i64.wrap ((k : Int) / 64) = (k : Int) / 64 := IntWalk.i64_in _ (by omega)
      have e2 : 0 ≤ (k : Int) / 64 := by omega
      have e3 : ((k : Int) / 64).toNat = k / 64 := by omega
      have e4 : IntKind.i64.wrap ((k : Int) % 64) = (k : Int) % 64 := IntWalk.i64_in _ (by omega)
      have e5 : (k : Int).tmod 64 = (k : Int) % 64 := by rw [Int.tmod_eq_emod_of_nonneg (by omega)]
      refine wp_region_still_tail 18 (by kernel_rfl) (by kernel_rfl) ?_
      simp only [List.take_succ_cons, List.take_zero, List.drop_succ_cons, List.drop_zero]
      repeat still_step
      still_call (Calls.mono (HC.out _) (fun _ _ h => ⟨h.1, h.2.symm⟩))
      repeat still_step
      refine wpStill_nil ?_
      change wpList _ _ _ _ _ w.drew
      clear e1 e2 e3 e4 e5
      go_wp2
      go_ret
      refine ⟨rfl, (HP.out w HS.out).keep (fun _ _ _ _ _ hb => hb), ?_⟩
      exact ((Fr.refl _ w).set (One.self q) (k / 64) _).drew
  · have hf : inB n i = false := by simpa using hr
    rw [show setB n B i = B by rw [setB, if_neg hr], hf, Bool.false_and]
    rw [hf] at HT
    clear hr hf h HG
    go_enter Tryd.func54, Tryd.ntmps54
    go_wp2_with (go_at_call 70; refine HT.out.mono ?_; rintro e w' ⟨rfl, rfl⟩)
    go_ret
    exact ⟨rfl, HS.out, Fr.refl _ _⟩

set_option maxRecDepth 100000 in
set_option maxHeartbeats 1000000 in
theorem sclear_calls (P : Option Addr) (q n B : Nat) (i : Int) (w : World) (h : SP w P q n B) :
    Calls Tryd.prog 55 #[.pointer P, .int .i64 i] w fun e w' => e = .returned (.bool (getB n B i)) ∧ SP w' P q n (clrB n B i) ∧ Fr (One q) w w' := by
  have HG := Lib.hid (sget_calls P q n B i w h)
  have HS := Lib.hid h
  cases hg : getB n B i with
  | true =>
    have hr : inB n i = true := by rw [getB, Bool.and_eq_true] at hg; exact hg.1
    obtain ⟨h0, h1⟩ := of_decide_eq_true hr
    rw [show clrB n B i = wipeN B i.toNat (i.toNat + 1) by rw [clrB, if_pos hr]]
    rw [hg] at HG
    obtain ⟨k, rfl⟩ : ∃ k : Nat, i = k := ⟨i.toNat, by omega⟩
    have HP := Lib.hid (fun (W : World) (hW : SP W P q n B) => hW.put (k := k / 64) (by omega) (wipe_lt hW.lt (a := k) (b := k + 1)) (clr_word B k) (fun j hj => wipe_other B (k / 64) j k (k + 1) (by omega) (by omega) hj))
    obtain ⟨p, rfl, hS⟩ := h.pos (by omega)
    obtain ⟨c, hw1, hw2, hw3⟩ := hS.word (k := k / 64) (by omega)
    have hn := h.le
    have hk2 : (k : Int) / 64 < n := by omega
    have hwl := wordN_lt B (k / 64)
    have HC := Lib.hid (fun w => clear_calls (wordN B (k / 64)) ((k : Int) % 64) w hwl)
    obtain ⟨v, hv⟩ : ∃ v, v = clrN (wordN B (k / 64)) ((k : Int) % 64) := ⟨_, rfl⟩
    rw [← hv] at HC HP
    obtain ⟨wd, hwd⟩ : ∃ wd, wd = wordN B (k / 64) := ⟨_, rfl⟩
    rw [← hwd] at hw2 HC
    clear hwd hS hg h hr hwl hv
    go_enter Tryd.func55, Tryd.ntmps55
    go_wp2_with (go_at_call 48; refine HG.out.mono ?_; rintro e w' ⟨rfl, rfl⟩)
    have e1 : IntKind.i64.wrap ((k : Int) / 64) = (k : Int) / 64 := IntWalk.i64_in _ (by omega)
    have e2 : 0 ≤ (k : Int) / 64 := by omega
    have e3 : ((k : Int) / 64).toNat = k / 64 := by omega
    have e4 : IntKind.i64.wrap ((k : Int) % 64) = (k : Int) % 64 := IntWalk.i64_in _ (by omega)
    have e5 : (k : Int).tmod 64 = (k : Int) % 64 := by rw [Int.tmod_eq_emod_of_nonneg (by omega)]
    refine wp_region_still_tail 18 (by kernel_rfl) (by kernel_rfl) ?_
    simp only [List.take_succ_cons, List.take_zero, List.drop_succ_cons, List.drop_zero]
    repeat still_step
    still_call (Calls.mono (HC.out _) (fun _ _ h => ⟨h.1, h.2.symm⟩))
    repeat still_step
    refine wpStill_nil ?_
    change wpList _ _ _ _ _ w.drew
    clear e1 e2 e3 e4 e5
    go_wp2
    go_ret
    refine ⟨rfl, (HP.out w HS.out).keep (fun _ _ _ _ _ hb => hb), ?_⟩
    exact ((Fr.refl _ w).set (One.self q) (k / 64) _).drew
  | false =>
    have hc : clrB n B i = B := by
      rw [clrB]
      split
      · rename_i hr
        rw [getB, hr, Bool.true_and] at hg
        exact wipe_same _ _ hg
      · rfl
    rw [hc]
    rw [hg] at HG
    clear hg hc h
    go_enter Tryd.func55, Tryd.ntmps55
    go_wp2_with (go_at_call 48; refine HG.out.mono ?_; rintro e w' ⟨rfl, rfl⟩)
    go_ret
    exact ⟨rfl, HS.out, Fr.refl _ _⟩

set_option maxHeartbeats 1000000 in
theorem scount_calls (P : Option Addr) (q n B : Nat) (w : World) (h : SP w P q n B) :
    Calls Tryd.prog 77 #[.pointer P] w fun e w' => e = .returned (.int .i64 (segN B 0 (64 * n))) ∧ Nw w w' := by
  have HB := Lib.hid (pbits_calls P q n B w h)
  have HR := Lib.hid (srank_calls P q n B (64 * n : Nat) w h)
  have e1 : toN ((64 * n : Nat) : Int) (64 * n) = 64 * n := by unfold toN; omega
  rw [e1] at HR
  obtain ⟨m, hm⟩ : ∃ m : Int, m = ((64 * n : Nat) : Int) := ⟨_, rfl⟩
  rw [← hm] at HB HR
  obtain ⟨r, hr⟩ : ∃ r : Nat, r = segN B 0 (64 * n) := ⟨_, rfl⟩
  rw [← hr] at HR ⊢
  clear h e1 hm hr
  go_enter Tryd.func77, Tryd.ntmps77
  go_wp2_with (first | (go_at_call 72; refine HB.out.mono ?_; rintro e w' ⟨rfl, rfl⟩) | (go_at_call 47; refine HR.out.mono ?_; rintro e w' ⟨rfl, hn⟩))
  go_ret
  exact ⟨rfl, hn⟩

end Go.Proofs.YtiekoidlibhoeaaDoor
