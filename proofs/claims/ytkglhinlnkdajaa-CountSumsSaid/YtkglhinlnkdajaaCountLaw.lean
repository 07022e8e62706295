/-
  The walks of the laws on package count.
-/
import Derived.Test.YtkglhinlnkdajaaCount
import Derived.Test.YtkglhinlnkdajaaCountPure
namespace Go.Proofs.Ytkglhinlnkdajaa
open Go.RowKit Go.Proofs.YtkglhinlnkdajaaW.PrintWords Go.Proofs.Ytkglhinlnkdajaa.PCountPlays

set_option linter.unusedVariables false
set_option linter.unusedSimpArgs false

theorem kind_mod {a : Int} (h : 0 ≤ a) : kindOf a = a % 3 := by unfold kindOf; rw [Int.tmod_eq_emod_of_nonneg h]

set_option maxHeartbeats 1000000 in
theorem play_calls (A : Option Addr) (c : Nat) (l : List Int) (w : World) (hr : Kd.C (Kd.int .u8) w A l.length l) (hc : l.length ≤ c) (hb : ∀ a, a ∈ l → 0 ≤ a ∧ a ≤ 255) (hn : l.length ≤ 1000) :
    Calls Try.prog 8 #[.slice A l.length c] w fun e w' => e = .returned (.pointer (some ⟨w.heap.size, 0, none⟩)) ∧
      Mt w' w.heap.size (cnt l 1) (cnt l 2) (tk l) (pk l) (cnt l 0) ∧ Nw w w' := by
  have HR := Lib.hid hr
  have HB := Lib.hid hb
  clear hr hb
  go_enter Try.func8, Try.ntmps8
  go_wp2_with (go_at_call 22; refine (new_calls _).mono ?_; rintro e w' ⟨rfl, hm, hf⟩; have HM := Lib.hid hm; have HF := Lib.hid hf; clear hm hf)
  go_loopw [9] (fun i wr => ∃ k : Nat, k ≤ l.length ∧ i = .int .i64 k ∧ Hid (Mt wr w.heap.size (cnt (l.take k) 1) (cnt (l.take k) 2) (tk (l.take k)) (pk (l.take k)) (cnt (l.take k) 0)) ∧ Hid (Nw w wr)) (fun i _ => l.length - (intOf i).toNat)
  case atStart => exact ⟨0, Nat.zero_le _, rfl, HM, HF⟩
  case round =>
    obtain ⟨k, hk, rfl, HM1, HF1⟩ := hrel
    by_cases hlt : k < l.length
    · obtain ⟨ad, hA, hcell⟩ := Kd.at_int HR.out (k : Int) (by omega) (by omega)
      cases hA
      rw [rd_at l k hlt, Int.toNat_natCast] at hcell
      have hcell := HF1.out.cell hcell (fun h => h)
      have hx := HB.out l[k] (List.getElem_mem hlt)
      have HS := Lib.hid (List.take_succ_eq_append_getElem hlt)
      have HK := Lib.hid (kind_mod hx.1)
      obtain ⟨x, hxe⟩ : ∃ x, x = l[k] := ⟨_, rfl⟩
      rw [← hxe] at hcell hx HS HK
      clear hxe
      obtain ⟨hx0, hx1⟩ := hx
      have hlen : (l.take k).length ≤ k := List.length_take_le _ _
      have b0 := cnt_bd (l.take k) 0
      have b1 := cnt_bd (l.take k) 1
      have b2 := cnt_bd (l.take k) 2
      have b3 := tk_bd (l.take k)
      obtain ⟨L, hL⟩ : ∃ L, L = l.take k := ⟨_, rfl⟩
      rw [← hL] at HM1 HS b0 b1 b2 b3 hlen
      clear hL
      have hk3 : x % 3 = 0 ∨ x % 3 = 1 ∨ x % 3 = 2 := by omega
      rcases hk3 with h3 | h3 | h3
      · have e : kindOf x = 0 := by rw [HK.out]; exact h3
        have HA := Lib.hid (act0 (L := L) e)
        clear e
        have t1 : (x % 3 == 0) = true := by simp [h3]
        have H3 := Lib.hid h3
        clear h3
        go_wp2_with (go_at_call 17; refine (start_calls _ _ _ _ _ _ _ HM1.out (by omega) (by omega)).mono ?_; rintro e w' ⟨rfl, hm, hf⟩; have HM2 := Lib.hid hm; have HF2 := Lib.hid hf; clear hm hf)
        go_roundw
        case rel =>
          obtain ⟨a1, a2, a3, a4, a5⟩ := HA.out
          exact ⟨k + 1, by omega, by go_num, Lib.hid (by rw [HS.out, a1, a2, a3, a4, a5]; exact HM2.out), Lib.hid (HF1.out.trans_new HF2.out (Nat.le_refl _))⟩
        case measure => simp [intOf]; omega
      · have e : kindOf x = 1 := by rw [HK.out]; exact h3
        have HA := Lib.hid (act1 (L := L) e)
        clear e
        have t1 : (x % 3 == 0) = false := by simp [h3]
        have t2 : (x % 3 == 1) = true := by simp [h3]
        have H3 := Lib.hid h3
        clear h3
        go_wp2_with (go_at_call 18; refine (read_calls _ _ _ _ _ _ _ HM1.out (by omega) (by omega) (by omega) (by omega)).mono ?_; rintro e w' ⟨rfl, hm, hf⟩; have HM2 := Lib.hid hm; have HF2 := Lib.hid hf; clear hm hf)
        go_roundw
        case rel =>
          obtain ⟨a1, a2, a3, a4, a5⟩ := HA.out
          exact ⟨k + 1, by omega, by go_num, Lib.hid (by rw [HS.out, a1, a2, a3, a4, a5]; exact HM2.out), Lib.hid (HF1.out.trans_new HF2.out (Nat.le_refl _))⟩
        case measure => simp [intOf]; omega
      · have e : kindOf x = 2 := by rw [HK.out]; exact h3
        have HA := Lib.hid (act2 (L := L) e)
        clear e
        have t1 : (x % 3 == 0) = false := by simp [h3]
        have t2 : (x % 3 == 1) = false := by simp [h3]
        have H3 := Lib.hid h3
        clear h3
        go_wp2_with (go_at_call 19; refine (call_calls _ _ _ _ _ _ _ HM1.out (by omega) (by omega) (by omega) (by omega)).mono ?_; rintro e w' ⟨rfl, hm, hf⟩; have HM2 := Lib.hid hm; have HF2 := Lib.hid hf; clear hm hf)
        go_roundw
        case rel =>
          obtain ⟨a1, a2, a3, a4, a5⟩ := HA.out
          exact ⟨k + 1, by omega, by go_num, Lib.hid (by rw [HS.out, a1, a2, a3, a4, a5]; exact HM2.out), Lib.hid (HF1.out.trans_new HF2.out (Nat.le_refl _))⟩
        case measure => simp [intOf]; omega
    · go_wp2
      go_ret
      have e : l.take k = l := List.take_of_length_le (by omega)
      rw [e] at HM1
      exact ⟨rfl, HM1.out, HF1.out⟩

theorem mt_eq {W : World} {b : Nat} {r c t p s r' c' t' p' s' : Int} (h : Mt W b r c t p s) (h1 : r = r') (h2 : c = c') (h3 : t = t') (h4 : p = p') (h5 : s = s') : Mt W b r' c' t' p' s' := by subst h1 h2 h3 h4 h5; exact h

set_option maxHeartbeats 1000000 in
theorem awake_calls (w : World) : Calls Try.prog 6 #[] w fun e w' => e = .returned (.bool true) ∧ Nw w w' := by
  go_enter Try.func6, Try.ntmps6
  go_wp2_with (go_at_call 22; refine (new_calls _).mono ?_; rintro e w' ⟨rfl, hm, hf⟩; have HM := Lib.hid hm; have HF := Lib.hid hf; clear hm hf)
  go_wp2_with (go_at_call 18; refine (read_calls _ _ _ _ _ _ _ HM.out (by omega) (by omega) (by omega) (by omega)).mono ?_; rintro e w1 ⟨rfl, hm, hf⟩; have HM1 := Lib.hid (mt_eq (r' := 1) (c' := 0) (t' := 1) (p' := 1) (s' := 0) hm (by omega) (by omega) (by omega) (by omega) (by omega)); have HF1 := Lib.hid (HF.out.trans_new hf (Nat.le_refl _)); clear hm hf HM HF)
  go_wp2_with (go_at_call 19; refine (call_calls _ _ _ _ _ _ _ HM1.out (by omega) (by omega) (by omega) (by omega)).mono ?_; rintro e w2 ⟨rfl, hm, hf⟩; have HM := Lib.hid (mt_eq (r' := 1) (c' := 1) (t' := 2) (p' := 2) (s' := 0) hm (by omega) (by omega) (by omega) (by omega) (by omega)); have HF := Lib.hid (HF1.out.trans_new hf (Nat.le_refl _)); clear hm hf HM1 HF1)
  go_wp2_with (go_at_call 17; refine (start_calls _ _ _ _ _ _ _ HM.out (by omega) (by omega)).mono ?_; rintro e w3 ⟨rfl, hm, hf⟩; have HM1 := Lib.hid (mt_eq (r' := 1) (c' := 1) (t' := 0) (p' := 2) (s' := 1) hm (by omega) (by omega) (by omega) (by omega) (by omega)); have HF1 := Lib.hid (HF.out.trans_new hf (Nat.le_refl _)); clear hm hf HM HF)
  go_wp2_with (go_at_call 18; refine (read_calls _ _ _ _ _ _ _ HM1.out (by omega) (by omega) (by omega) (by omega)).mono ?_; rintro e w4 ⟨rfl, hm, hf⟩; have HM := Lib.hid (mt_eq (r' := 2) (c' := 1) (t' := 1) (p' := 2) (s' := 1) hm (by omega) (by omega) (by omega) (by omega) (by omega)); have HF := Lib.hid (HF1.out.trans_new hf (Nat.le_refl _)); clear hm hf HM1 HF1)
  go_wp2_with (go_at_call 9; refine (taken_calls _ _ _ _ _ _ _ HM.out).mono ?_; rintro e w5 ⟨rfl, hf⟩; have HM1 := Lib.hid (HM.out.kept hf (fun h => h)); have HF1 := Lib.hid (HF.out.trans hf); clear hf HM HF)
  go_wp2_with (go_at_call 13; refine (reads_calls _ _ _ _ _ _ _ HM1.out).mono ?_; rintro e w6 ⟨rfl, hf⟩; have HM := Lib.hid (HM1.out.kept hf (fun h => h)); have HF := Lib.hid (HF1.out.trans hf); clear hf HM1 HF1)
  go_wp2_with (go_at_call 14; refine (calls_calls _ _ _ _ _ _ _ HM.out).mono ?_; rintro e w7 ⟨rfl, hf⟩; have HM1 := Lib.hid (HM.out.kept hf (fun h => h)); have HF1 := Lib.hid (HF.out.trans hf); clear hf HM HF)
  go_wp2_with (go_at_call 15; refine (peak_calls _ _ _ _ _ _ _ HM1.out).mono ?_; rintro e w8 ⟨rfl, hf⟩; have HM := Lib.hid (HM1.out.kept hf (fun h => h)); have HF := Lib.hid (HF1.out.trans hf); clear hf HM1 HF1)
  go_ret
  exact ⟨rfl, HF.out⟩

set_option maxHeartbeats 1000000 in
theorem plays_calls (A : Option Addr) (c : Nat) (l : List Int) (w : World) (hr : Kd.C (Kd.int .u8) w A l.length l) (hc : l.length ≤ c) (hb : ∀ a, a ∈ l → 0 ≤ a ∧ a ≤ 255) (hn : l.length ≤ 140737488351232) :
    Calls Try.prog 3 #[.slice A l.length c] w fun e w' => e = .returned (.bool true) ∧ Nw w w' := by
  have hby := bytes_f 200 l hn
  obtain ⟨l1, hl1e⟩ : ∃ l1, l1 = l.take 200 := ⟨_, rfl⟩
  rw [← hl1e] at hby
  have HB1 := Lib.hid (fun a ha => hb a (List.mem_of_mem_take (by rw [← hl1e]; exact ha)) : ∀ a, a ∈ l1 → 0 ≤ a ∧ a ≤ 255)
  have hl2 : l1.length ≤ 200 := by rw [hl1e]; exact List.length_take_le _ _
  have hl1 : l1.length ≤ 140737488351232 := by omega
  have HBY := Lib.hid hby
  clear hby hl1e hb
  have HR := Lib.hid hr
  have HC0 := Lib.hid hc
  clear hr hc
  go_enter Try.func3, Try.ntmps3
  go_wp2_with (go_at_call 6; refine (awake_calls _).mono ?_; rintro e w1 ⟨rfl, hf⟩; have HF := Lib.hid hf; clear hf)
  have HR1 := Lib.hid (Kd.C_below HR.out (HF.out.below (fun _ _ h => h)))
  go_wp2_with (go_at_call 7; refine (stepstoneref01_Bytes.calls _ _ _ _ _ _ _ HR1.out HC0.out HBY.out).mono ?_; rintro e w2 ⟨v0, rfl, ho, hf⟩; obtain ⟨A1, c1, rfl, hc1, hC1⟩ := Kd.R_reads ho; have HC_0 := Lib.hid hC1; have HF1 := Lib.hid (HF.out.trans (Fr.of_below hf)); clear hC1 ho hf HF HR1)
  go_wp2_with (go_at_call 8; refine (play_calls _ _ _ _ HC_0.out hc1 HB1.out (by omega)).mono ?_; rintro e w3 ⟨rfl, hm, hf⟩; have HM_1 := Lib.hid hm; have HC_1 := Lib.hid (Kd.C_below HC_0.out (hf.below (fun _ _ h => h))); have HF_1 := Lib.hid (HF1.out.trans hf); clear hm hf HC_0 HF1)
  go_wp2_with (go_at_call 9; refine (taken_calls _ _ _ _ _ _ _ HM_1.out).mono ?_; rintro e w4 ⟨rfl, hf⟩; have HM_2 := Lib.hid (HM_1.out.kept hf (fun h => h)); have HC_2 := Lib.hid (Kd.C_below HC_1.out (hf.below (fun _ _ h => h))); have HF_2 := Lib.hid (HF_1.out.trans hf); clear hf HM_1 HF_1 HC_1)
  go_wp2_with (go_at_call 10; refine (stepstoneref03_Taken.calls _ _ _ _ _ _ HC_2.out hc1 (taken_f _ hl1 _ (Nat.lt_succ_self _))).mono ?_; rintro e w5 ⟨rfl, hd⟩; have hf := Fr.of_below (S := fun _ => False) hd.below; have HM_3 := Lib.hid (HM_2.out.kept hf (fun h => h)); have HC_3 := Lib.hid (Kd.C_below HC_2.out (hf.below (fun _ _ h => h))); have HF_3 := Lib.hid (HF_2.out.trans hf); clear hf hd HM_2 HF_2 HC_2)
  go_wp2_with (go_at_call 11; refine (starts_calls _ _ _ _ _ _ _ HM_3.out).mono ?_; rintro e w6 ⟨rfl, hf⟩; have HM_4 := Lib.hid (HM_3.out.kept hf (fun h => h)); have HC_4 := Lib.hid (Kd.C_below HC_3.out (hf.below (fun _ _ h => h))); have HF_4 := Lib.hid (HF_3.out.trans hf); clear hf HM_3 HF_3 HC_3)
  go_wp2_with (go_at_call 12; refine (stepstoneref03_Count.calls _ _ _ _ 0 _ _ HC_4.out hc1 (count_f 0 _ hl1)).mono ?_; rintro e w7 ⟨rfl, hd⟩; have hf := Fr.of_below (S := fun _ => False) hd.below; have HM_5 := Lib.hid (HM_4.out.kept hf (fun h => h)); have HC_5 := Lib.hid (Kd.C_below HC_4.out (hf.below (fun _ _ h => h))); have HF_5 := Lib.hid (HF_4.out.trans hf); clear hf hd HM_4 HF_4 HC_4)
  go_wp2_with (go_at_call 13; refine (reads_calls _ _ _ _ _ _ _ HM_5.out).mono ?_; rintro e w8 ⟨rfl, hf⟩; have HM_6 := Lib.hid (HM_5.out.kept hf (fun h => h)); have HC_6 := Lib.hid (Kd.C_below HC_5.out (hf.below (fun _ _ h => h))); have HF_6 := Lib.hid (HF_5.out.trans hf); clear hf HM_5 HF_5 HC_5)
  go_wp2_with (go_at_call 12; refine (stepstoneref03_Count.calls _ _ _ _ 1 _ _ HC_6.out hc1 (count_f 1 _ hl1)).mono ?_; rintro e w9 ⟨rfl, hd⟩; have hf := Fr.of_below (S := fun _ => False) hd.below; have HM_7 := Lib.hid (HM_6.out.kept hf (fun h => h)); have HC_7 := Lib.hid (Kd.C_below HC_6.out (hf.below (fun _ _ h => h))); have HF_7 := Lib.hid (HF_6.out.trans hf); clear hf hd HM_6 HF_6 HC_6)
  go_wp2_with (go_at_call 14; refine (calls_calls _ _ _ _ _ _ _ HM_7.out).mono ?_; rintro e w10 ⟨rfl, hf⟩; have HM_8 := Lib.hid (HM_7.out.kept hf (fun h => h)); have HC_8 := Lib.hid (Kd.C_below HC_7.out (hf.below (fun _ _ h => h))); have HF_8 := Lib.hid (HF_7.out.trans hf); clear hf HM_7 HF_7 HC_7)
  go_wp2_with (go_at_call 12; refine (stepstoneref03_Count.calls _ _ _ _ 2 _ _ HC_8.out hc1 (count_f 2 _ hl1)).mono ?_; rintro e w11 ⟨rfl, hd⟩; have hf := Fr.of_below (S := fun _ => False) hd.below; have HM_9 := Lib.hid (HM_8.out.kept hf (fun h => h)); have HC_9 := Lib.hid (Kd.C_below HC_8.out (hf.below (fun _ _ h => h))); have HF_9 := Lib.hid (HF_8.out.trans hf); clear hf hd HM_8 HF_8 HC_8)
  go_wp2_with (go_at_call 15; refine (peak_calls _ _ _ _ _ _ _ HM_9.out).mono ?_; rintro e w12 ⟨rfl, hf⟩; have HM_10 := Lib.hid (HM_9.out.kept hf (fun h => h)); have HC_10 := Lib.hid (Kd.C_below HC_9.out (hf.below (fun _ _ h => h))); have HF_10 := Lib.hid (HF_9.out.trans hf); clear hf HM_9 HF_9 HC_9)
  go_wp2_with (go_at_call 16; refine (stepstoneref03_Peak.calls _ _ _ _ _ _ HC_10.out hc1 (peak_f _ hl1)).mono ?_; rintro e w13 ⟨rfl, hd⟩; have HFz := Lib.hid (HF_10.out.trans (Fr.of_below hd)); clear hd HF_10)
  go_ret
  exact ⟨rfl, HFz.out⟩
end Go.Proofs.Ytkglhinlnkdajaa
