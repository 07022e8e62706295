/-
  BitmapAsks: of any bitmap whether a number is in it, the next, the last, how many are below, and the k-th are the document's.
-/
import Derived.Deep.RegionHeld3
import Derived.IntWalk
import Derived.Test.YtiekoidlibhoeaaDoorBmLaw
import Derived.Test.YtiekoidlibhoeaaDoorBmRow
namespace Go.Proofs.YtiekoidlibhoeaaDoor
open Go.RowKit Go.Shelf Go.Proofs.YtiekoidlibhoeaaDoorW.PrintWords Go.Proofs.YtiekoidlibhoeaaDoorW.PrintMore
set_option linter.unusedVariables false
set_option linter.unusedSimpArgs false

theorem told_at (x : Int) (h : x = -1 ∨ (0 ≤ x ∧ x < 64 * 1024)) : ∃ y z, toldV x = .tuple #[.int .u16 y, .bool z] ∧ ∀ W, Calls Tryd.prog 25 #[.int .u16 y, .bool z] W fun e w' => e = .returned (.int .i64 x) ∧ W = w' := by
  refine ⟨_, _, rfl, fun W => ?_⟩
  refine (at16_calls _ _ W ?_).mono ?_
  · split <;> omega
  · rintro e w' ⟨rfl, rfl⟩
    refine ⟨ret_int ?_, rfl⟩
    by_cases h0 : 0 ≤ x
    · rw [decide_eq_true h0, if_pos rfl, if_neg (by omega)]
    · rw [decide_eq_false h0, if_neg (by simp)]; omega

set_option maxRecDepth 100000 in
set_option maxHeartbeats 8000000 in
theorem bmasks_neg (a : Option Addr) (cap : Nat) (l : List Act4) (v : Nat) (k : Int) (w : World) (hv : v < 65536) (hk1 : k < 0) (hk2 : k ≤ 9223372036854775807) (hA : AC4 w a l) (hl : l.length ≤ 140737488351232) (hT : Tb w) :
    Calls Tryd.prog 6 #[.slice a l.length cap, .int .u16 v, .int .i64 k] w fun e w' => e = .returned (.bool true) ∧ Nw w w' := by
  have HT := Lib.hid hT
  have HA := Lib.hid hA
  have HL := Lib.hid (fun W h => blay_calls a cap l W h hl)
  obtain ⟨B, hB⟩ : ∃ B, B = layB (l.take 10) := ⟨_, rfl⟩
  rw [← hB] at HL
  clear hT hA hB
  (have hk0 : ¬ 0 ≤ k := by omega)
  go_enter Tryd.func6, Tryd.ntmps6
  go_wp2_with (first
    | (go_at_call 8; refine (bmawake_calls w HT.out).mono ?_; rintro e w1 ⟨rfl, hN1⟩; have HN1 := Lib.hid hN1; clear hN1) | (go_at_call 16; refine (HL.out _ (HA.out.nw HN1.out)).mono ?_; rintro e w2 ⟨b, p, q, s, c, rfl, hbq, hM, hS, hN⟩; have HN2 := Lib.hid (HN1.out.trans hN); have HM2 := Lib.hid hM; have HS2 := Lib.hid hS; have HBQ := Lib.hid hbq; clear hN hS hM hbq)
    | (fail))
  have hb1 := next_bd 1024 B (v : Int)
  have hb2 := prev_b16 1024 B (v : Int)
  have hT2 := HT.out.step HN2.out
  have hcell := HS2.out.cell hv
  have K1 := Lib.hid (fun W (h : Nw w2 W) => bm_has b p q B v hv W (HM2.out.nw h) (hT2.step h))
  have K2 := Lib.hid (fun W (h : Nw w2 W) => bm_next b p q B v hv W (HM2.out.nw h) (hT2.step h))
  have K3 := Lib.hid (fun W (h : Nw w2 W) => bm_prev b p q B v hv W (HM2.out.nw h) (hT2.step h))
  have K4 := Lib.hid (fun W (h : Nw w2 W) => bm_rank b p q B v hv W (HM2.out.nw h) (hT2.step h))
  have K5 := Lib.hid (fun W (h : Nw w2 W) => bm_select b p q B k hk2 W (HM2.out.nw h) (hT2.step h))
  have R2 := Lib.hid (fun W (h : Nw w2 W) => set_next s c B v W (HS2.out.nw h) hv)
  have R3 := Lib.hid (fun W (h : Nw w2 W) => set_prev s c B v W (HS2.out.nw h) hv)
  have R4 := Lib.hid (fun W (h : Nw w2 W) => set_rank s c B v W (HS2.out.nw h) (by omega))
  obtain ⟨t, ht⟩ : ∃ t, t = B.testBit v := ⟨_, rfl⟩
  rw [← ht] at hcell K1
  obtain ⟨x1, hx1⟩ : ∃ x, x = nextL (listB 1024 B) v := ⟨_, rfl⟩
  rw [← hx1] at K2 R2 hb1
  obtain ⟨x2, hx2⟩ : ∃ x, x = prevL (listB 1024 B) v := ⟨_, rfl⟩
  rw [← hx2] at K3 R3 hb2
  obtain ⟨y1, z1, hy1, A1⟩ := told_at x1 hb1
  obtain ⟨y2, z2, hy2, A2⟩ := told_at x2 hb2
  have A1 := Lib.hid A1
  have A2 := Lib.hid A2
  rw [hy1] at K2
  rw [hy2] at K3
  obtain ⟨m, hm⟩ : ∃ m, m = segN B 0 v := ⟨_, rfl⟩
  rw [← hm] at K4 R4
  (obtain ⟨y3, z3, hy3, A3⟩ := told_at (-1) (.inl rfl); have A3 := Lib.hid A3; have e3 : selectL (listB 1024 B) k = -1 := (by unfold selectL; rw [if_pos hk1]); rw [e3, hy3] at K5; clear hy3 e3)
  have hvi : (v : Int) < 65536 := by omega
  have hw1 : IntKind.i64.wrap (v : Int) = (v : Int) := IntWalk.i64_in _ (by omega)
  have hw2 : wrap64 (v : Int) = (v : Int) := by unfold wrap64; omega
  clear ht hx1 hx2 hy1 hy2 hm hb1 hb2 hT2
  go_region_held3 (fun w' => w'.cell? ⟨s, v, none⟩ = some (.bool t) ∧ Nw w2 w')
    (first
      | exact ⟨hcell, (Fr.refl (fun _ => False) w2).drew⟩
      | (go_split_ands; exact ⟨hF.cell (by assumption) (fun h => h), Fr.trans (by assumption) hF⟩)
      | (go_split_ands; exact ⟨by assumption, by assumption⟩))
    (first
      | (go_at_call 21; refine (K1.out _ (by go_split_ands; assumption)).mono ?_; rintro e wa ⟨rfl, hF⟩)
      | (go_at_call 26; refine (K2.out _ (by go_split_ands; assumption)).mono ?_; rintro e wa ⟨rfl, hF⟩)
      | (go_at_call 25; (with_reducible refine Calls.mono (A1.out _) ?_); rintro e wa ⟨rfl, rfl⟩)
      | (go_at_call 27; refine (R2.out _ (by go_split_ands; assumption)).mono ?_; rintro e wa ⟨rfl, hF⟩)
      | (go_at_call 28; refine (K3.out _ (by go_split_ands; assumption)).mono ?_; rintro e wa ⟨rfl, hF⟩)
      | (go_at_call 25; (with_reducible refine Calls.mono (A2.out _) ?_); rintro e wa ⟨rfl, rfl⟩)
      | (go_at_call 29; refine (R3.out _ (by go_split_ands; assumption)).mono ?_; rintro e wa ⟨rfl, hF⟩)
      | (go_at_call 20; refine (K4.out _ (by go_split_ands; assumption)).mono ?_; rintro e wa ⟨rfl, hF⟩)
      | (go_at_call 30; refine (R4.out _ (by go_split_ands; assumption)).mono ?_; rintro e wa ⟨rfl, hF⟩)
      | (go_at_call 19; refine (K5.out _ (by go_split_ands; assumption)).mono ?_; rintro e wa ⟨rfl, hF⟩)
      | (go_at_call 25; (with_reducible refine Calls.mono (A3.out _) ?_); rintro e wa ⟨rfl, rfl⟩))
  all_goals go_wp2
  all_goals go_ret
  all_goals exact ⟨ret_bool (by simp), Fr.trans HN2.out (by go_split_ands; assumption)⟩
set_option maxRecDepth 100000 in
set_option maxHeartbeats 8000000 in
theorem bmasks_pos (a : Option Addr) (cap : Nat) (l : List Act4) (v : Nat) (k : Int) (w : World) (hv : v < 65536) (hk1 : 0 ≤ k) (hk2 : k ≤ 9223372036854775807) (hA : AC4 w a l) (hl : l.length ≤ 140737488351232) (hT : Tb w) :
    Calls Tryd.prog 6 #[.slice a l.length cap, .int .u16 v, .int .i64 k] w fun e w' => e = .returned (.bool true) ∧ Nw w w' := by
  have HT := Lib.hid hT
  have HA := Lib.hid hA
  have HL := Lib.hid (fun W h => blay_calls a cap l W h hl)
  obtain ⟨B, hB⟩ : ∃ B, B = layB (l.take 10) := ⟨_, rfl⟩
  rw [← hB] at HL
  clear hT hA hB
  (have hb3 := sel_bd 1024 B k; have HSel := Lib.hid (fun s c W (h : BS W s B) => set_select s c B k W h hk1 hk2); obtain ⟨x3, hx3⟩ : ∃ x, x = selectL (listB 1024 B) k := ⟨_, rfl⟩; rw [← hx3] at HSel hb3; have HX3 := Lib.hid hx3; obtain ⟨y3, z3, hy3, A3⟩ := told_at x3 hb3; have A3 := Lib.hid A3; have HY3 := Lib.hid hy3; clear hx3 hy3 hb3)
  go_enter Tryd.func6, Tryd.ntmps6
  go_wp2_with (first
    | (go_at_call 8; refine (bmawake_calls w HT.out).mono ?_; rintro e w1 ⟨rfl, hN1⟩; have HN1 := Lib.hid hN1; clear hN1) | (go_at_call 16; refine (HL.out _ (HA.out.nw HN1.out)).mono ?_; rintro e w2 ⟨b, p, q, s, c, rfl, hbq, hM, hS, hN⟩; have HN2 := Lib.hid (HN1.out.trans hN); have HM2 := Lib.hid hM; have HS2 := Lib.hid hS; have HBQ := Lib.hid hbq; clear hN hS hM hbq)
    | (go_at_call 24; refine (HSel.out s c _ HS2.out).mono ?_; rintro e w2 ⟨rfl, hN⟩; have HN2 := Lib.hid (HN2.out.trans hN); have HM2 := Lib.hid (HM2.out.nw hN); have HS2 := Lib.hid (HS2.out.nw hN); clear hN))
  have hb1 := next_bd 1024 B (v : Int)
  have hb2 := prev_b16 1024 B (v : Int)
  have hT2 := HT.out.step HN2.out
  have hcell := HS2.out.cell hv
  have K1 := Lib.hid (fun W (h : Nw w2 W) => bm_has b p q B v hv W (HM2.out.nw h) (hT2.step h))
  have K2 := Lib.hid (fun W (h : Nw w2 W) => bm_next b p q B v hv W (HM2.out.nw h) (hT2.step h))
  have K3 := Lib.hid (fun W (h : Nw w2 W) => bm_prev b p q B v hv W (HM2.out.nw h) (hT2.step h))
  have K4 := Lib.hid (fun W (h : Nw w2 W) => bm_rank b p q B v hv W (HM2.out.nw h) (hT2.step h))
  have K5 := Lib.hid (fun W (h : Nw w2 W) => bm_select b p q B k hk2 W (HM2.out.nw h) (hT2.step h))
  have R2 := Lib.hid (fun W (h : Nw w2 W) => set_next s c B v W (HS2.out.nw h) hv)
  have R3 := Lib.hid (fun W (h : Nw w2 W) => set_prev s c B v W (HS2.out.nw h) hv)
  have R4 := Lib.hid (fun W (h : Nw w2 W) => set_rank s c B v W (HS2.out.nw h) (by omega))
  obtain ⟨t, ht⟩ : ∃ t, t = B.testBit v := ⟨_, rfl⟩
  rw [← ht] at hcell K1
  obtain ⟨x1, hx1⟩ : ∃ x, x = nextL (listB 1024 B) v := ⟨_, rfl⟩
  rw [← hx1] at K2 R2 hb1
  obtain ⟨x2, hx2⟩ : ∃ x, x = prevL (listB 1024 B) v := ⟨_, rfl⟩
  rw [← hx2] at K3 R3 hb2
  obtain ⟨y1, z1, hy1, A1⟩ := told_at x1 hb1
  obtain ⟨y2, z2, hy2, A2⟩ := told_at x2 hb2
  have A1 := Lib.hid A1
  have A2 := Lib.hid A2
  rw [hy1] at K2
  rw [hy2] at K3
  obtain ⟨m, hm⟩ : ∃ m, m = segN B 0 v := ⟨_, rfl⟩
  rw [← hm] at K4 R4
  (rw [← HX3.out, HY3.out] at K5)
  have hvi : (v : Int) < 65536 := by omega
  have hw1 : IntKind.i64.wrap (v : Int) = (v : Int) := IntWalk.i64_in _ (by omega)
  have hw2 : wrap64 (v : Int) = (v : Int) := by unfold wrap64; omega
  clear ht hx1 hx2 hy1 hy2 hm hb1 hb2 hT2
  go_region_held3 (fun w' => w'.cell? ⟨s, v, none⟩ = some (.bool t) ∧ Nw w2 w')
    (first
      | exact ⟨hcell, (Fr.refl (fun _ => False) w2).drew⟩
      | (go_split_ands; exact ⟨hF.cell (by assumption) (fun h => h), Fr.trans (by assumption) hF⟩)
      | (go_split_ands; exact ⟨by assumption, by assumption⟩))
    (first
      | (go_at_call 21; refine (K1.out _ (by go_split_ands; assumption)).mono ?_; rintro e wa ⟨rfl, hF⟩)
      | (go_at_call 26; refine (K2.out _ (by go_split_ands; assumption)).mono ?_; rintro e wa ⟨rfl, hF⟩)
      | (go_at_call 25; (with_reducible refine Calls.mono (A1.out _) ?_); rintro e wa ⟨rfl, rfl⟩)
      | (go_at_call 27; refine (R2.out _ (by go_split_ands; assumption)).mono ?_; rintro e wa ⟨rfl, hF⟩)
      | (go_at_call 28; refine (K3.out _ (by go_split_ands; assumption)).mono ?_; rintro e wa ⟨rfl, hF⟩)
      | (go_at_call 25; (with_reducible refine Calls.mono (A2.out _) ?_); rintro e wa ⟨rfl, rfl⟩)
      | (go_at_call 29; refine (R3.out _ (by go_split_ands; assumption)).mono ?_; rintro e wa ⟨rfl, hF⟩)
      | (go_at_call 20; refine (K4.out _ (by go_split_ands; assumption)).mono ?_; rintro e wa ⟨rfl, hF⟩)
      | (go_at_call 30; refine (R4.out _ (by go_split_ands; assumption)).mono ?_; rintro e wa ⟨rfl, hF⟩)
      | (go_at_call 19; refine (K5.out _ (by go_split_ands; assumption)).mono ?_; rintro e wa ⟨rfl, hF⟩)
      | (go_at_call 25; (with_reducible refine Calls.mono (A3.out _) ?_); rintro e wa ⟨rfl, rfl⟩))
  all_goals go_wp2
  all_goals go_ret
  all_goals exact ⟨ret_bool (by simp), Fr.trans HN2.out (by go_split_ands; assumption)⟩

theorem bmasks_row (a : Option Addr) (cap : Nat) (l : List Act4) (y k : Int) (w : World) (hy : (Lit.int .u16 y).wf = true) (hk : (Lit.int .i64 k).wf = true) (hA : AC4 w a l) (hl : l.length ≤ 140737488351232) (hT : Tb w) :
    Calls Tryd.prog 6 #[.slice a l.length cap, .int .u16 y, .int .i64 k] w fun e w' => e = .returned (.bool true) ∧ Nw w w' := by
  have h1 := u16_bd hy
  have h2 := i64_bd hk
  obtain ⟨v, rfl⟩ : ∃ b : Nat, y = b := ⟨y.toNat, by omega⟩
  by_cases h0 : 0 ≤ k
  · exact bmasks_pos a cap l v k w (by omega) h0 h2.2 hA hl hT
  · exact bmasks_neg a cap l v k w (by omega) (by omega) h2.2 hA hl hT

end Go.Proofs.YtiekoidlibhoeaaDoor
