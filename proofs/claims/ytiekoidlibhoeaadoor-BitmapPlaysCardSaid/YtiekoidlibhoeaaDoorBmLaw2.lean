/-
  BitmapPlays: every script of acts leaves just the document's numbers, and tells how many were changed; they are told rising, up to where one stops.
-/
import Derived.Deep.RegionHeld3
import Derived.Test.YtiekoidlibhoeaaDoorBmLaw
import Derived.Test.YtiekoidlibhoeaaDoorBmRow
namespace Go.Proofs.YtiekoidlibhoeaaDoor
open Go.RowKit Go.Shelf Go.Proofs.YtiekoidlibhoeaaDoorW.PrintWords Go.Proofs.YtiekoidlibhoeaaDoorW.PrintMore
attribute [local go_sem] max2_int min2_int max_two min_two
set_option linter.unusedVariables false
set_option linter.unusedSimpArgs false

theorem C_take16 {W : World} {A : Option Addr} {l : List Int} (m : Nat) (h : Kd.C (Kd.int .u16) W A l.length l) (hn : l.length ≤ 1000000) : Kd.C (Kd.int .u16) W A (l.take m).length (l.take m) := by
  refine Kd.C_of_reads (d := (0 : Int)) (h1 := fun _ => rfl) ⟨rfl, by simp; omega, fun h0 => ?_⟩
  have hl0 : 0 < l.length := by simp at h0; omega
  obtain ⟨ad, hA, _⟩ := at_nat h hl0
  refine ⟨ad, hA, fun j hj => ?_⟩
  have hj2 : j < l.length := by simp at hj; omega
  obtain ⟨ad2, hA2, hc⟩ := at_nat h hj2
  rw [hA] at hA2; injection hA2 with hA2; subst hA2
  rw [hc, List.getD_eq_getElem?_getD, List.getElem?_eq_getElem hj, List.getElem_take]; rfl

set_option maxRecDepth 100000 in
set_option maxHeartbeats 4000000 in
theorem bmplays_walk (st : Nat) (a : Option Addr) (cap : Nat) (l : List Act4) (w : World) (hst : st < 256) (hA : AC4 w a l) (hl : l.length ≤ 140737488351232) (hT : Tb w) :
    Calls Tryd.prog 4 #[.slice a l.length cap, .int .u8 st] w fun e w' => e = .returned (.bool true) ∧ Nw w w' := by
  have e5 : (st : Int).tmod 5 = ((st % 5 : Nat) : Int) := by rw [Int.tmod_eq_emod_of_nonneg (by omega)]; rfl
  have e6 : (st : Int) % 5 = ((st % 5 : Nat) : Int) := rfl
  have hr9 : st % 5 < 5 := Nat.mod_lt _ (by decide)
  obtain ⟨r, hr⟩ : ∃ r, r = st % 5 := ⟨_, rfl⟩
  rw [← hr] at e5 e6 hr9
  clear hr
  have HT := Lib.hid hT
  have HA := Lib.hid hA
  have HL := Lib.hid (fun W h => blay_calls a cap l W h hl)
  obtain ⟨B, hB⟩ : ∃ B, B = layB (l.take 10) := ⟨_, rfl⟩
  rw [← hB] at HL
  clear hT hA hB
  have HLi := Lib.hid (fun s c W (h : BS W s B) => set_list s c B W h)
  go_enter Tryd.func4, Tryd.ntmps4
  go_wp2_with (first
    | (go_at_call 8; refine (bmawake_calls w HT.out).mono ?_; rintro e w1 ⟨rfl, hN1⟩; have HN1 := Lib.hid hN1; clear hN1) | (go_at_call 16; refine (HL.out _ (HA.out.nw HN1.out)).mono ?_; rintro e w2 ⟨b, p, q, s, c, rfl, hbq, hM, hS, hN⟩; have HN2 := Lib.hid (HN1.out.trans hN); have HM2 := Lib.hid hM; have HS2 := Lib.hid hS; have HBQ := Lib.hid hbq; clear hN hS hM hbq)
    | (go_at_call 11; refine (HLi.out s c _ HS2.out).mono ?_; rintro e w3 ⟨v5, rfl, hR, hBl⟩; obtain ⟨A5, c5, rfl, hcap5, hC⟩ := Kd.R_reads hR; have HC3 := Lib.hid hC; have HN3 := Lib.hid (HN2.out.trans (Fr.of_below hBl)); have HM3 := Lib.hid (HM2.out.nw (Fr.of_below hBl)); have HS3 := Lib.hid (HS2.out.nw (Fr.of_below hBl)); clear hR hBl hC))
  clear e5 e6
  have hL := len_bd16 B
  have hT3 := HT.out.step HN3.out
  have K1 := Lib.hid (fun W (h : Nw w3 W) => bmall_calls (some ⟨b, 0, none⟩) p q B 70000 W (.inl ⟨b, rfl, HM3.out.nw h⟩) (by omega) (by omega) (hT3.step h))
  have K2 := Lib.hid (fun W (h : Nw w3 W) => bmall_calls (some ⟨b, 0, none⟩) p q B (1 + r) W (.inl ⟨b, rfl, HM3.out.nw h⟩) (by omega) (by omega) (hT3.step h))
  have K3 := Lib.hid (fun W (h : Nw w3 W) => bm_len b p q B W (HM3.out.nw h))
  have K4 := Lib.hid (fun W (h : Nw w3 W) => bm_runs (some ⟨b, 0, none⟩) p q B W (.inl ⟨b, rfl, HM3.out.nw h⟩))
  have K5 := Lib.hid (fun W (h : Nw w3 W) => set_runs s c B W (HS3.out.nw h))
  rw [take_all16] at K1
  rw [← len_all16] at K3
  have HCk := Lib.hid (C_take16 (1 + r) HC3.out (by omega))
  obtain ⟨rn, hrn⟩ : ∃ rn, rn = segN (runsN B) 0 65536 := ⟨_, rfl⟩
  rw [← hrn] at K4 K5
  obtain ⟨L, hLL⟩ : ∃ L, L = listB 1024 B := ⟨_, rfl⟩
  rw [← hLL] at K1 K2 K3 hL HC3 HCk hcap5 ⊢
  have K6 := Lib.hid (fun (A : Option Addr) (d : Nat) W (h : Nw w3 W) (h1 : Kd.C (Kd.int .u16) W A L.length L) => same16_calls A A5 d c5 L L W h1 (Kd.C_below HC3.out (h.below (fun _ _ h => h))) (by omega))
  rw [decide_eq_true (rfl : L = L)] at K6
  obtain ⟨lk, hlk⟩ : ∃ lk, lk = L.take (1 + r) := ⟨_, rfl⟩
  rw [← hlk] at K2 HCk
  have hlkn : lk.length = min L.length (1 + r) := by rw [hlk, List.length_take, Nat.min_comm]
  have hlk2 : lk.length ≤ 65536 := by omega
  have K7 := Lib.hid (fun (A : Option Addr) (d : Nat) W (h : Nw w3 W) (h1 : Kd.C (Kd.int .u16) W A lk.length lk) => same16_calls A A5 d c5 lk lk W h1 (Kd.C_below HCk.out (h.below (fun _ _ h => h))) (by omega))
  rw [decide_eq_true (rfl : lk = lk)] at K7
  have he1 : ((1 + r : Nat) : Int) = 1 + (r : Int) := by omega
  rw [he1] at K2
  obtain ⟨n, hn⟩ : ∃ n, n = L.length := ⟨_, rfl⟩
  obtain ⟨M, hM⟩ : ∃ M, M = lk.length := ⟨_, rfl⟩
  rw [← hn] at K1 K3 K6 hL hcap5 hlkn ⊢
  rw [← hM] at K2 K7 hlk2 hlkn
  have m1 : min (n : Int) (1 + (r : Int)) = (M : Int) := by omega
  have m2 : M ≤ n := by omega
  have m7 : (if 1 + (r : Int) < (n : Int) then 1 + (r : Int) else (n : Int)) = (M : Int) := by split <;> omega
  have m3 : (0 : Int) ≤ (M : Int) := by omega
  have m4 : (M : Int) ≤ (n : Int) := by omega
  have m5 : (n : Int) ≤ (c5 : Int) := by omega
  have m6 : (M : Int) ≤ (c5 : Int) := by omega
  clear hrn hLL hlk hlkn he1 hn hM hT3
  go_region_held3 (fun w' => Nw w3 w')
    (first
      | exact (Fr.refl (fun _ => False) w3).drew
      | exact Fr.trans (by assumption) hF
      | assumption)
    (first
      | (go_at_call 14; (with_reducible refine Calls.mono (K1.out _ (by assumption)) ?_); rintro e wd ⟨A1, cc3, rfl, hC1, hF⟩; have HC1 := Lib.hid hC1; clear hC1)
      | (go_at_call 13; (with_reducible refine Calls.mono (K6.out _ _ _ (by assumption) HC1.out) ?_); rintro e we ⟨rfl, hF⟩)
      | (go_at_call 14; (with_reducible refine Calls.mono (K2.out _ (by assumption)) ?_); rintro e wf ⟨A2, cc4, rfl, hC2, hF⟩; have HC2 := Lib.hid hC2; clear hC2)
      | (go_at_call 13; (with_reducible refine Calls.mono (K7.out _ _ _ (by assumption) HC2.out) ?_); rintro e wh ⟨rfl, hF⟩)
      | (go_at_call 15; refine (K3.out _ (by assumption)).mono ?_; rintro e wi ⟨rfl, rfl⟩)
      | (go_at_call 17; refine (K4.out _ (by assumption)).mono ?_; rintro e wj ⟨rfl, hF⟩)
      | (go_at_call 18; refine (K5.out _ (by assumption)).mono ?_; rintro e wk ⟨rfl, hF⟩))
  all_goals go_wp2
  all_goals go_ret
  all_goals exact ⟨ret_bool (by simp), Fr.trans HN3.out (by assumption)⟩

/-- For the row. -/
theorem bmplays_row (a : Option Addr) (cap : Nat) (l : List Act4) (y : Int) (w : World) (hy : (Lit.int .u8 y).wf = true) (hA : AC4 w a l) (hl : l.length ≤ 140737488351232) (hT : Tb w) :
    Calls Tryd.prog 4 #[.slice a l.length cap, .int .u8 y] w fun e w' => e = .returned (.bool true) ∧ Nw w w' := by
  have h2 := u8_bd hy
  obtain ⟨st, rfl⟩ : ∃ b : Nat, y = b := ⟨y.toNat, by omega⟩
  exact bmplays_walk st a cap l w (by omega) hA hl hT

end Go.Proofs.YtiekoidlibhoeaaDoor
