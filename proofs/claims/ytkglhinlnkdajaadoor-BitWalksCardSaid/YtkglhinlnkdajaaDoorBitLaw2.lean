/-
  The walks of the laws BitInverse, BitAsks, BitSets, BitRest.
-/
import Derived.Test.YtkglhinlnkdajaaDoorBitLaw
import Derived.Test.YtkglhinlnkdajaaDoorBitPure2
namespace Go.Proofs.YtkglhinlnkdajaaDoor
open Go.RowKit Go.Proofs.YtkglhinlnkdajaaDoorW.PrintWords Go.Proofs.YtkglhinlnkdajaaDoorW.PrintMore
attribute [local go_sem] max2_int min2_int max_two min_two
set_option linter.unusedVariables false
set_option linter.unusedSimpArgs false


theorem same_true (A B : Option Addr) (c d : Nat) (l : List Int) (w : World) (hr : Kd.C (Kd.int .i64) w A l.length l) (hr2 : Kd.C (Kd.int .i64) w B l.length l) (hn : l.length ≤ 140737488351232) :
    Calls Tryd.prog 29 #[.slice A l.length c, .slice B l.length d] w fun e w' => e = .returned (.bool true) ∧ Nw w w' := by
  have h := same_calls A B c d l l w hr hr2 hn
  rw [decide_eq_true (rfl : l = l)] at h
  exact h

set_option maxHeartbeats 1000000 in
theorem inverse_calls (x : Nat) (k : Int) (w : World) (hx : x < 18446744073709551616) (hT : Tb w) : Calls Tryd.prog 5 #[.int .u64 x, .int .i64 k] w fun e w' => e = .returned (.bool true) ∧ Nw w w' := by
  have HT := Lib.hid hT
  have HX := Lib.hid hx
  have hc := cntN_le x
  clear hT hx
  by_cases h0 : k < 0
  · have hs : selectL (listW x) k = -1 := by simp [selectL, h0]
    have HS := Lib.hid (fun W => bselect_calls x k W HX.out)
    rw [hs] at HS
    clear hs
    go_enter Tryd.func5, Tryd.ntmps5
    go_wp2_with (first | (go_at_call 10; refine (bawake_calls _ HT.out).mono ?_; rintro e w1 ⟨rfl, hf⟩; have HQ : Hid (Q w w1) := Lib.hid ⟨HT.out.step hf, hf⟩; clear hf HT) | (go_at_call 22; refine (HS.out _).mono ?_; rintro e w' ⟨rfl, rfl⟩))
    go_ret
    exact ⟨rfl, HQ.out.2⟩
  · obtain ⟨m, rfl⟩ := Int.eq_ofNat_of_zero_le (Int.not_lt.1 h0)
    clear h0
    by_cases h1 : m < cntN x
    · obtain ⟨s1, s2⟩ := sel_mem (listW_sorted x) (k := m) h1
      obtain ⟨i, hi⟩ : ∃ i, i = selectL (listW x) (m : Int) := ⟨_, rfl⟩
      have HS := Lib.hid (fun W => bselect_calls x (m : Int) W HX.out)
      rw [← hi] at s1 s2 HS
      have hi0 := ((mem_listW x i).1 s1).1
      have HG := Lib.hid (fun W => get_calls x i W HX.out)
      rw [show getN x i = true from decide_eq_true s1] at HG
      have HN := Lib.hid (fun W h => bnext_calls x i W HX.out h)
      rw [next_self (listW_sorted x) s1] at HN
      have HP := Lib.hid (fun W => bprev_calls x i W HX.out)
      rw [prev_self (listW_sorted x) s1] at HP
      have HR := Lib.hid (fun W => brank_calls x i W HX.out)
      rw [s2] at HR
      clear s1 s2 hi
      go_enter Tryd.func5, Tryd.ntmps5
      go_wp2_with (first | (go_at_call 10; refine (bawake_calls _ HT.out).mono ?_; rintro e w1 ⟨rfl, hf⟩; have HQ : Hid (Q w w1) := Lib.hid ⟨HT.out.step hf, hf⟩; clear hf HT) | (go_at_call 22; refine (HS.out _).mono ?_; rintro e w' ⟨rfl, rfl⟩) | (go_at_call 14; refine (HG.out _).mono ?_; rintro e w' ⟨rfl, rfl⟩) | (go_at_call 20; refine (HR.out _).mono ?_; rintro e w' ⟨rfl, rfl⟩) | (go_at_call 16; refine (HN.out _ HQ.out.1).mono ?_; rintro e w' ⟨rfl, rfl⟩) | (go_at_call 18; refine (HP.out _).mono ?_; rintro e w' ⟨rfl, rfl⟩))
      go_ret
      exact ⟨rfl, HQ.out.2⟩
    · have hs : selectL (listW x) (m : Int) = -1 := by
        simp only [selectL]; rw [if_neg (by omega)]; simp [List.getD, List.getElem?_eq_none (show (listW x).length ≤ m from Nat.le_of_not_lt h1)]
      have HS := Lib.hid (fun W => bselect_calls x (m : Int) W HX.out)
      rw [hs] at HS
      clear hs
      have h2 : cntN x ≤ m := by omega
      go_enter Tryd.func5, Tryd.ntmps5
      go_wp2_with (first | (go_at_call 10; refine (bawake_calls _ HT.out).mono ?_; rintro e w1 ⟨rfl, hf⟩; have HQ : Hid (Q w w1) := Lib.hid ⟨HT.out.step hf, hf⟩; clear hf HT) | (go_at_call 22; refine (HS.out _).mono ?_; rintro e w' ⟨rfl, rfl⟩) | (go_at_call 23; refine (count_calls x _ HX.out).mono ?_; rintro e w' ⟨rfl, rfl⟩))
      go_ret
      refine ⟨ret_bool ?_, HQ.out.2⟩
      first | rfl | (simp; omega)

set_option maxHeartbeats 2000000 in
theorem asks_calls (x : Nat) (i k : Int) (w : World) (hx : x < 18446744073709551616) (hT : Tb w) : Calls Tryd.prog 4 #[.int .u64 x, .int .i64 i, .int .i64 k] w fun e w' => e = .returned (.bool true) ∧ Nw w w' := by
  have HT := Lib.hid hT
  have HX := Lib.hid hx
  clear hT hx
  obtain ⟨l, hl⟩ : ∃ l, l = listW x := ⟨_, rfl⟩
  have hlen := listW_len x
  have HLI := Lib.hid (fun W => list_calls x W HX.out)
  have HG := Lib.hid (fun W => get_calls x i W HX.out)
  rw [show getN x i = hasL (listW x) i from rfl] at HG
  have HN := Lib.hid (fun W h => bnext_calls x i W HX.out h)
  have HP := Lib.hid (fun W => bprev_calls x i W HX.out)
  have HR := Lib.hid (fun W => brank_calls x i W HX.out)
  have HS := Lib.hid (fun W => bselect_calls x k W HX.out)
  have HC := Lib.hid (fun W => count_calls x W HX.out)
  rw [show cntN x = (listW x).length from rfl] at HC
  have HLo := Lib.hid (fun W h => low_calls x W HX.out h)
  rw [show lowN x = selectL (listW x) 0 from low_sel _] at HLo
  have HHi := Lib.hid (fun W => high_calls x W HX.out)
  rw [show highN x = selectL (listW x) (((listW x).length : Int) - 1) from high_sel _] at HHi
  rw [← hl] at HLI HG HN HP HR HS HC HLo HHi hlen
  clear hl
  have hll : l.length ≤ 140737488351232 := by omega
  go_enter Tryd.func4, Tryd.ntmps4
  go_wp2_with (first | (go_at_call 10; refine (bawake_calls _ HT.out).mono ?_; rintro e w1 ⟨rfl, hf⟩; have HQ : Hid (Q w w1) := Lib.hid ⟨HT.out.step hf, hf⟩; clear hf HT) | (go_at_call 11; refine (HLI.out _).mono ?_; rintro e w2 ⟨v, rfl, ho, hb⟩; obtain ⟨A, c, rfl, hc, hC⟩ := Kd.R_reads ho; have HK := Lib.hid hC; have HQ' := Lib.hid (HQ.out.step (Fr.of_below hb)); clear HQ; have HQ := HQ'; clear HQ'; clear ho hb hC) | (go_at_call 14; refine (HG.out _).mono ?_; rintro e w' ⟨rfl, rfl⟩) | (go_at_call 15; refine (has_calls _ _ _ _ _ HK.out hll).mono ?_; rintro e w' ⟨rfl, rfl⟩) | (go_at_call 16; refine (HN.out _ HQ.out.1).mono ?_; rintro e w' ⟨rfl, rfl⟩) | (go_at_call 17; refine (next_calls _ _ _ _ _ HK.out hll).mono ?_; rintro e w' ⟨rfl, rfl⟩) | (go_at_call 18; refine (HP.out _).mono ?_; rintro e w' ⟨rfl, rfl⟩) | (go_at_call 19; refine (prev_calls _ _ _ _ _ HK.out hll).mono ?_; rintro e w' ⟨rfl, rfl⟩) | (go_at_call 20; refine (HR.out _).mono ?_; rintro e w' ⟨rfl, rfl⟩) | (go_at_call 21; refine (rank_calls _ _ _ _ _ HK.out hll).mono ?_; rintro e w' ⟨rfl, rfl⟩) | (go_at_call 22; refine (HS.out _).mono ?_; rintro e w' ⟨rfl, rfl⟩) | (go_at_call 13; refine (select_calls _ _ _ _ _ HK.out hll).mono ?_; rintro e w' ⟨rfl, rfl⟩) | (go_at_call 23; refine (HC.out _).mono ?_; rintro e w' ⟨rfl, rfl⟩) | (go_at_call 24; refine (HLo.out _ HQ.out.1).mono ?_; rintro e w' ⟨rfl, rfl⟩) | (go_at_call 25; refine (HHi.out _).mono ?_; rintro e w' ⟨rfl, rfl⟩))
  go_ret
  exact ⟨rfl, HQ.out.2⟩

set_option maxHeartbeats 2000000 in
theorem sets_calls (x : Nat) (i : Int) (w : World) (hx : x < 18446744073709551616) (hT : Tb w) : Calls Tryd.prog 7 #[.int .u64 x, .int .i64 i] w fun e w' => e = .returned (.bool true) ∧ Nw w w' := by
  have HT := Lib.hid hT
  have HX := Lib.hid hx
  clear hT hx
  have hlen := listW_len x
  have HLI := Lib.hid (fun W => list_calls x W HX.out)
  by_cases hin : 0 ≤ i ∧ i < 64
  · obtain ⟨h0, h1⟩ := hin
    obtain ⟨l, hl⟩ : ∃ l, l = listW x := ⟨_, rfl⟩
    obtain ⟨u, hu⟩ : ∃ u, u = setN x i := ⟨_, rfl⟩
    obtain ⟨d, hd⟩ : ∃ d, d = clrN x i := ⟨_, rfl⟩
    have HS := Lib.hid (fun W => set_calls x i W HX.out)
    have HC := Lib.hid (fun W => clear_calls x i W HX.out)
    have HCU := Lib.hid (fun W => clear_calls u i W (by rw [hu]; exact set_lt x i HX.out))
    rw [show clrN u i = d by rw [hu, hd]; exact clr_set x HX.out i] at HCU
    have HSD := Lib.hid (fun W => set_calls d i W (by rw [hd]; exact clr_lt x i HX.out))
    rw [show setN d i = u by rw [hu, hd]; exact set_clr x HX.out i] at HSD
    have HLU := Lib.hid (fun W => list_calls u W (by rw [hu]; exact set_lt x i HX.out))
    rw [show listW u = addL l i by rw [hu, hl]; exact list_set x i h0 h1] at HLU
    have HLD := Lib.hid (fun W => list_calls d W (by rw [hd]; exact clr_lt x i HX.out))
    rw [show listW d = dropL l i by rw [hd, hl]; exact list_clr x i] at HLD
    rw [← hu] at HS
    rw [← hd] at HC
    rw [← hl] at HLI hlen
    have ha := addL_len l i
    have hb := dropL_le l i
    obtain ⟨a, hae⟩ : ∃ a, a = addL l i := ⟨_, rfl⟩
    obtain ⟨b, hbe⟩ : ∃ b, b = dropL l i := ⟨_, rfl⟩
    have HA := Lib.hid (fun A c W hr => add_calls A c l i W hr (by omega))
    have HD := Lib.hid (fun A c W hr => Go.Proofs.YtkglhinlnkdajaaDoor.drop_calls A c l i W hr (by omega))
    rw [← hae] at HA HLU ha
    rw [← hbe] at HD HLD hb
    clear hl hu hd hae hbe
    go_enter Tryd.func7, Tryd.ntmps7
    have tok0 : True := trivial
    go_wp2_with (first | (go_at_call 10; refine (bawake_calls _ HT.out).mono ?_; rintro e w1 ⟨rfl, hf⟩; have HQ : Hid (Q w w1) := Lib.hid ⟨HT.out.step hf, hf⟩; clear hf HT) | (go_at_call 11; have _t := tok0; refine (HLI.out _).mono ?_; rintro e w2 ⟨v, rfl, ho, hb⟩; obtain ⟨A, c, rfl, hc, hC⟩ := Kd.R_reads ho; have HK := Lib.hid hC; have HQ' := Lib.hid (HQ.out.step (Fr.of_below hb)); clear HQ; have HQ := HQ'; clear HQ'; clear ho hb hC tok0) | (go_at_call 27; refine (HS.out _).mono ?_; rintro e w' ⟨rfl, rfl⟩) | (go_at_call 28; refine (HC.out _).mono ?_; rintro e w' ⟨rfl, rfl⟩))
    have tok1 : True := trivial
    go_wp2_with (first | (go_at_call 11; have _t := tok1; refine (HLU.out _).mono ?_; rintro e w3 ⟨v, rfl, ho, hb2⟩; obtain ⟨A1, c1, rfl, hc1, hC⟩ := Kd.R_reads ho; have HK1 := Lib.hid hC; have HK' := Lib.hid (Kd.C_below HK.out hb2); clear HK; have HK := HK'; clear HK'; have HQ' := Lib.hid (HQ.out.step (Fr.of_below hb2)); clear HQ; have HQ := HQ'; clear HQ'; clear ho hb2 hC tok1) | (go_at_call 30; refine (HA.out _ _ _ HK.out).mono ?_; rintro e w4 ⟨v, rfl, ho, hb2⟩; obtain ⟨A2, c2, rfl, hc2, hC⟩ := Kd.R_reads ho; have HK2 := Lib.hid hC; have HK' := Lib.hid (Kd.C_below HK.out hb2); clear HK; have HK := HK'; clear HK'; have HK1' := Lib.hid (Kd.C_below HK1.out hb2); clear HK1; have HK1 := HK1'; clear HK1'; have HQ' := Lib.hid (HQ.out.step (Fr.of_below hb2)); clear HQ; have HQ := HQ'; clear HQ'; clear ho hb2 hC) | (go_at_call 29; have _t := HK2; refine (same_true _ _ _ _ a _ HK1.out HK2.out (by omega)).mono ?_; rintro e w5 ⟨rfl, hf⟩; have HK' := Lib.hid (C_nw HK.out hf); clear HK; have HK := HK'; clear HK'; have HQ' := Lib.hid (HQ.out.step hf); clear HQ; have HQ := HQ'; clear HQ'; clear hf HK1 HK2; have tok2 : True := trivial))
    go_wp2_with (first | (go_at_call 11; have _t := tok2; refine (HLD.out _).mono ?_; rintro e w3 ⟨v, rfl, ho, hb2⟩; obtain ⟨A1, c1, rfl, hc1, hC⟩ := Kd.R_reads ho; have HK1 := Lib.hid hC; have HK' := Lib.hid (Kd.C_below HK.out hb2); clear HK; have HK := HK'; clear HK'; have HQ' := Lib.hid (HQ.out.step (Fr.of_below hb2)); clear HQ; have HQ := HQ'; clear HQ'; clear ho hb2 hC tok2) | (go_at_call 31; refine (HD.out _ _ _ HK.out).mono ?_; rintro e w4 ⟨v, rfl, ho, hb2⟩; obtain ⟨A2, c2, rfl, hc2, hC⟩ := Kd.R_reads ho; have HK2 := Lib.hid hC; have HK1' := Lib.hid (Kd.C_below HK1.out hb2); clear HK1; have HK1 := HK1'; clear HK1'; have HQ' := Lib.hid (HQ.out.step (Fr.of_below hb2)); clear HQ; have HQ := HQ'; clear HQ'; clear ho hb2 hC) | (go_at_call 29; have _t := HK2; refine (same_true _ _ _ _ b _ HK1.out HK2.out (by omega)).mono ?_; rintro e w5 ⟨rfl, hf⟩; have HQ' := Lib.hid (HQ.out.step hf); clear HQ; have HQ := HQ'; clear HQ'; clear hf HK1 HK2) | (go_at_call 28; refine (HCU.out _).mono ?_; rintro e w' ⟨rfl, rfl⟩) | (go_at_call 27; refine (HSD.out _).mono ?_; rintro e w' ⟨rfl, rfl⟩))
    go_ret
    exact ⟨rfl, HQ.out.2⟩
  · have HS := Lib.hid (fun W => set_calls x i W HX.out)
    rw [set_out x i hin] at HS
    have HC := Lib.hid (fun W => clear_calls x i W HX.out)
    rw [clr_out x HX.out i hin] at HC
    by_cases h0 : i < 0
    · clear hin
      go_enter Tryd.func7, Tryd.ntmps7
      go_wp2_with (first | (go_at_call 10; refine (bawake_calls _ HT.out).mono ?_; rintro e w1 ⟨rfl, hf⟩; have HQ : Hid (Q w w1) := Lib.hid ⟨HT.out.step hf, hf⟩; clear hf HT) | (go_at_call 11; refine (HLI.out _).mono ?_; rintro e w2 ⟨v, rfl, ho, hb⟩; obtain ⟨A, c, rfl, hc, hC⟩ := Kd.R_reads ho; have HQ' := Lib.hid (HQ.out.step (Fr.of_below hb)); clear HQ; have HQ := HQ'; clear HQ'; clear ho hb hC) | (go_at_call 27; refine (HS.out _).mono ?_; rintro e w' ⟨rfl, rfl⟩) | (go_at_call 28; refine (HC.out _).mono ?_; rintro e w' ⟨rfl, rfl⟩))
      go_ret
      exact ⟨rfl, HQ.out.2⟩
    · have h1 : 63 < i := by omega
      clear hin
      go_enter Tryd.func7, Tryd.ntmps7
      go_wp2_with (first | (go_at_call 10; refine (bawake_calls _ HT.out).mono ?_; rintro e w1 ⟨rfl, hf⟩; have HQ : Hid (Q w w1) := Lib.hid ⟨HT.out.step hf, hf⟩; clear hf HT) | (go_at_call 11; refine (HLI.out _).mono ?_; rintro e w2 ⟨v, rfl, ho, hb⟩; obtain ⟨A, c, rfl, hc, hC⟩ := Kd.R_reads ho; have HQ' := Lib.hid (HQ.out.step (Fr.of_below hb)); clear HQ; have HQ := HQ'; clear HQ'; clear ho hb hC) | (go_at_call 27; refine (HS.out _).mono ?_; rintro e w' ⟨rfl, rfl⟩) | (go_at_call 28; refine (HC.out _).mono ?_; rintro e w' ⟨rfl, rfl⟩))
      go_ret
      exact ⟨rfl, HQ.out.2⟩
theorem inv_row (x : Int) (k : Int) (w : World) (h : (Lit.int .u64 x).wf = true) (hT : Tb w) : Calls Tryd.prog 5 #[.int .u64 x, .int .i64 k] w fun e w' => e = .returned (.bool true) ∧ Nw w w' := by
  obtain ⟨h0, h1⟩ := u64_bd h
  obtain ⟨n, rfl⟩ := Int.eq_ofNat_of_zero_le h0
  exact inverse_calls n k w (by omega) hT
theorem asks_row (x : Int) (i k : Int) (w : World) (h : (Lit.int .u64 x).wf = true) (hT : Tb w) : Calls Tryd.prog 4 #[.int .u64 x, .int .i64 i, .int .i64 k] w fun e w' => e = .returned (.bool true) ∧ Nw w w' := by
  obtain ⟨h0, h1⟩ := u64_bd h
  obtain ⟨n, rfl⟩ := Int.eq_ofNat_of_zero_le h0
  exact asks_calls n i k w (by omega) hT
theorem sets_row (x : Int) (i : Int) (w : World) (h : (Lit.int .u64 x).wf = true) (hT : Tb w) : Calls Tryd.prog 7 #[.int .u64 x, .int .i64 i] w fun e w' => e = .returned (.bool true) ∧ Nw w w' := by
  obtain ⟨h0, h1⟩ := u64_bd h
  obtain ⟨n, rfl⟩ := Int.eq_ofNat_of_zero_le h0
  exact sets_calls n i w (by omega) hT
end Go.Proofs.YtkglhinlnkdajaaDoor
