/-
  BitmapJoins: what one, what all, what the first alone, what just one of two has are the document's; a nil one has nothing in it; a copy goes its own way.
-/
import Derived.Test.YtiekoidlibhoeaaDoorBmLaw
import Derived.Test.YtiekoidlibhoeaaDoorBmRow
import Derived.Test.YtiekoidlibhoeaaDoorBm3
namespace Go.Proofs.YtiekoidlibhoeaaDoor
open Go.RowKit Go.Shelf Go.Proofs.YtiekoidlibhoeaaDoorW.PrintWords Go.Proofs.YtiekoidlibhoeaaDoorW.PrintMore
set_option linter.unusedVariables false
set_option linter.unusedSimpArgs false

theorem pb_two {W : World} {P1 P2 : Option Addr} {p1 q1 B1 p2 q2 B2 : Nat} (h1 : BP W P1 p1 q1 B1) (h2 : BP W P2 p2 q2 B2) (l1 : B1 < 2 ^ (64 * 1024)) (l2 : B2 < 2 ^ (64 * 1024)) :
    PB (W.alloc (.cells #[.pointer P1, .pointer P2] 25)) W.heap.size [⟨P1, p1, q1, B1⟩, ⟨P2, p2, q2, B2⟩] := fun k hk => by
  have hN : Nw W (W.alloc (.cells #[.pointer P1, .pointer P2] 25)) := (Fr.refl _ _).alloc _
  have hb := blk_new W (.cells #[.pointer P1, .pointer P2] 25)
  rcases (by simp at hk; omega : k = 0 ∨ k = 1) with rfl | rfl
  · exact ⟨blk_cell hb 0, h1.nw hN, l1⟩
  · exact ⟨blk_cell hb 1, h2.nw hN, l2⟩
theorem pb_three {W : World} {P1 P2 : Option Addr} {p1 q1 B1 p2 q2 B2 : Nat} (h1 : BP W P1 p1 q1 B1) (h2 : BP W P2 p2 q2 B2) (l1 : B1 < 2 ^ (64 * 1024)) (l2 : B2 < 2 ^ (64 * 1024)) :
    PB (W.alloc (.cells #[.pointer P1, .pointer P2, .pointer P1] 25)) W.heap.size [⟨P1, p1, q1, B1⟩, ⟨P2, p2, q2, B2⟩, ⟨P1, p1, q1, B1⟩] := fun k hk => by
  have hN : Nw W (W.alloc (.cells #[.pointer P1, .pointer P2, .pointer P1] 25)) := (Fr.refl _ _).alloc _
  have hb := blk_new W (.cells #[.pointer P1, .pointer P2, .pointer P1] 25)
  rcases (by simp at hk; omega : k = 0 ∨ k = 1 ∨ k = 2) with rfl | rfl | rfl
  · exact ⟨blk_cell hb 0, h1.nw hN, l1⟩
  · exact ⟨blk_cell hb 1, h2.nw hN, l2⟩
  · exact ⟨blk_cell hb 2, h1.nw hN, l1⟩
theorem and_again (A B : Nat) : joinN 1 (joinN 1 A B) A = joinN 1 A B := by
  apply Nat.eq_of_testBit_eq
  intro j
  rw [tb_join, tb_join]
  show ((A.testBit j && B.testBit j) && A.testBit j) = (A.testBit j && B.testBit j)
  cases A.testBit j <;> cases B.testBit j <;> rfl
theorem or_zero (A : Nat) : joinN 0 A 0 = A := Nat.or_zero A
theorem and_zero (A : Nat) : joinN 1 A 0 = 0 := Nat.and_zero A
theorem cnt_zero : segN 0 0 65536 = 0 := by rw [← len_all16, listB_zero]; rfl
theorem runs_zero : segN (runsN 0) 0 65536 = 0 := by rw [show runsN 0 = 0 from rfl]; exact cnt_zero

/-- What a call that makes a bitmap of C answers. -/
def Makes (W : World) (C : Nat) (e : Ending) (w' : World) : Prop := ∃ b p q, e = .returned (.pointer (some ⟨b, 0, none⟩)) ∧ BM w' b p q C ∧ Nw W w'
theorem same_any (A D : Option Addr) (c d : Nat) (L : List Int) (W : World) (h1 : Kd.C (Kd.int .u16) W A L.length L) (h2 : Kd.C (Kd.int .u16) W D L.length L) (hL : L.length ≤ 65536) :
    Calls Tryd.prog 13 #[.slice A L.length c, .slice D L.length d] W fun e w' => e = .returned (.bool true) ∧ Nw W w' := by
  have h := same16_calls A D c d L L W h1 h2 (by omega)
  rw [decide_eq_true (rfl : L = L)] at h
  exact h
theorem all_any (b p q C : Nat) (W : World) (h : BM W b p q C) (hT : Tb W) :
    Calls Tryd.prog 14 #[.pointer (some ⟨b, 0, none⟩), .int .i64 70000] W fun e w' => ∃ A c, e = .returned (.slice A (listB 1024 C).length c) ∧ Kd.C (Kd.int .u16) w' A (listB 1024 C).length (listB 1024 C) ∧ Nw W w' := by
  have h := bmall_calls (some ⟨b, 0, none⟩) p q C 70000 W (.inl ⟨b, rfl, h⟩) (by omega) (by omega) hT
  rw [take_all16] at h
  exact h
theorem list_any (s c C : Nat) (W : World) (h : BS W s C) :
    Calls Tryd.prog 11 #[.slice (some ⟨s, 0, none⟩) 65536 c] W fun e w' => ∃ A c, e = .returned (.slice A (listB 1024 C).length c) ∧ Kd.C (Kd.int .u16) w' A (listB 1024 C).length (listB 1024 C) ∧ Nw W w' := by
  refine (set_list s c C W h).mono ?_
  rintro e w' ⟨v, rfl, hR, hB⟩
  obtain ⟨A, c, rfl, _, hC⟩ := Kd.R_reads hR
  exact ⟨A, c, rfl, hC, Fr.of_below hB⟩

set_option maxRecDepth 100000 in
set_option maxHeartbeats 16000000 in
theorem bmjoins_walk (a1 a2 : Option Addr) (cap1 cap2 : Nat) (l1 l2 : List Act4) (v : Nat) (w : World) (hv : v < 65536) (hA1 : AC4 w a1 l1) (hA2 : AC4 w a2 l2) (hl1 : l1.length ≤ 140737488351232) (hl2 : l2.length ≤ 140737488351232) (hT : Tb w) :
    Calls Tryd.prog 7 #[.slice a1 l1.length cap1, .slice a2 l2.length cap2, .int .u16 v] w fun e w' => e = .returned (.bool true) ∧ Nw w w' := by
  have HT := Lib.hid hT
  have HA1 := Lib.hid hA1
  have HA2 := Lib.hid hA2
  have HL1 := Lib.hid (fun W h => blay_calls a1 cap1 l1 W h hl1)
  have HL2 := Lib.hid (fun W h => blay_calls a2 cap2 l2 W h hl2)
  obtain ⟨B1, hB1⟩ : ∃ B, B = layB (l1.take 10) := ⟨_, rfl⟩
  rw [← hB1] at HL1
  obtain ⟨B2, hB2⟩ : ∃ B, B = layB (l2.take 10) := ⟨_, rfl⟩
  rw [← hB2] at HL2
  clear hT hA1 hA2 hB1 hB2
  go_enter Tryd.func7, Tryd.ntmps7
  go_wp2_with (first
    | (go_at_call 8; refine (bmawake_calls w HT.out).mono ?_; rintro e w1 ⟨rfl, hN1⟩; have HN := Lib.hid hN1; clear hN1)
    | (go_at_call 16; (with_reducible refine Calls.mono (HL1.out _ (HA1.out.nw HN.out)) ?_); rintro e w2 ⟨b1, p1, q1, s1, c1, rfl, hbq, hM, hS, hN⟩; have HN := Lib.hid (HN.out.trans hN); have HM1 := Lib.hid hM; have HS1 := Lib.hid hS; have HL1 := 0; clear hN hS hM hbq)
    | (go_at_call 16; (with_reducible refine Calls.mono (HL2.out _ (HA2.out.nw HN.out)) ?_); rintro e w3 ⟨b2, p2, q2, s2, c2, rfl, hbq, hM, hS, hN⟩; have HN := Lib.hid (HN.out.trans hN); have HM2 := Lib.hid hM; have HS2 := Lib.hid hS; have HM1 := Lib.hid (HM1.out.nw hN); have HS1 := Lib.hid (HS1.out.nw hN); clear hN hS hM hbq)
    | (go_at_call 31; refine (bm_copy (some ⟨b1, 0, none⟩) p1 q1 B1 _ HM1.out.st.lt (.inl ⟨b1, rfl, HM1.out⟩)).mono ?_; rintro e w4 ⟨b3, p3, q3, rfl, hbq, hM, hN⟩; have HBQ := Lib.hid hbq; have HN3 := HN; have HNx := Lib.hid hN; have HN := Lib.hid (HN.out.trans hN); have HM3 := Lib.hid hM; clear hN hM hbq)
    | (go_at_call 23; refine (bm_fill b3 p3 q3 B1 v v _ HM3.out hv hv).mono ?_; rintro e w5 ⟨rfl, hM, hF⟩; have HNx := Lib.hid (HNx.out.trans_of hF (fun y hy h => by have := HBQ.out; rcases h with rfl | rfl <;> omega)); have HM3 := Lib.hid hM; clear hM hF)
    | (go_at_call 22; refine (bm_wipe b3 p3 q3 _ 0 9 _ HM3.out (by omega) (by omega)).mono ?_; rintro e w6 ⟨rfl, hM, hF⟩; have HNx := Lib.hid (HNx.out.trans_of hF (fun y hy h => by have := HBQ.out; rcases h with rfl | rfl <;> omega)); have HM1 := Lib.hid (HM1.out.nw HNx.out); have HM2 := Lib.hid (HM2.out.nw HNx.out); have HS1 := Lib.hid (HS1.out.nw HNx.out); have HS2 := Lib.hid (HS2.out.nw HNx.out); have HN := Lib.hid (HN3.out.trans HNx.out); clear hM hF HNx HN3)
    | (go_at_call 11; (with_reducible refine Calls.mono (list_any s1 c1 B1 _ HS1.out) ?_); rintro e w7 ⟨A, cA, rfl, hC, hN⟩; have HC := Lib.hid hC; have HN := Lib.hid (HN.out.trans hN); have HM1 := Lib.hid (HM1.out.nw hN); have HM2 := Lib.hid (HM2.out.nw hN); have HS1 := Lib.hid (HS1.out.nw hN); have HS2 := Lib.hid (HS2.out.nw hN); clear hC hN)
    | (go_at_call 26; refine (nil_next _ _).mono ?_; rintro e w8 ⟨rfl, rfl⟩)
    | (go_at_call 28; refine (nil_prev _ _).mono ?_; rintro e w8 ⟨rfl, rfl⟩)
    | (go_at_call 19; refine (nil_select _ _).mono ?_; rintro e w8 ⟨rfl, rfl⟩))
  have lt1 := Lib.hid HM1.out.st.lt
  have lt2 := Lib.hid HM2.out.st.lt
  have P1 := Lib.hid (fun W (h : Nw w7 W) => (.inl ⟨b1, rfl, HM1.out.nw h⟩ : BP W (some ⟨b1, 0, none⟩) p1 q1 B1))
  have P2 := Lib.hid (fun W (h : Nw w7 W) => (.inl ⟨b2, rfl, HM2.out.nw h⟩ : BP W (some ⟨b2, 0, none⟩) p2 q2 B2))
  have PZ := Lib.hid (fun W => (.inr ⟨rfl, rfl⟩ : BP W none 0 0 0))
  have ltz := Lib.hid (Nat.two_pow_pos (64 * 1024))
  have KOr := Lib.hid (fun W (h : Nw w7 W) => bm_or W.heap.size 2 2 [⟨_, p1, q1, B1⟩, ⟨_, p2, q2, B2⟩] _ rfl (Nat.le_refl _) (by omega) (Nat.le_refl _) (pb_two (P1.out W h) (P2.out W h) lt1.out lt2.out))
  have KAnd := Lib.hid (fun W (h : Nw w7 W) => bm_and W.heap.size 3 3 [⟨_, p1, q1, B1⟩, ⟨_, p2, q2, B2⟩, ⟨_, p1, q1, B1⟩] _ rfl (by omega) (by omega) (Nat.le_refl _) (pb_three (P1.out W h) (P2.out W h) lt1.out lt2.out))
  have KOrZ := Lib.hid (fun W (h : Nw w7 W) => bm_or W.heap.size 2 2 [⟨_, p1, q1, B1⟩, ⟨_, 0, 0, 0⟩] _ rfl (Nat.le_refl _) (by omega) (Nat.le_refl _) (pb_two (P1.out W h) (PZ.out W) lt1.out ltz.out))
  have KAndZ := Lib.hid (fun W (h : Nw w7 W) => bm_and W.heap.size 2 2 [⟨_, p1, q1, B1⟩, ⟨_, 0, 0, 0⟩] _ rfl (Nat.le_refl _) (by omega) (Nat.le_refl _) (pb_two (P1.out W h) (PZ.out W) lt1.out ltz.out))
  have KLess := Lib.hid (fun W (h : Nw w7 W) => bm_less _ _ p1 q1 B1 p2 q2 B2 W (P1.out W h) (P2.out W h) lt1.out lt2.out)
  have KXor := Lib.hid (fun W (h : Nw w7 W) => bm_xor _ _ p1 q1 B1 p2 q2 B2 W (P1.out W h) (P2.out W h) lt1.out lt2.out)
  have KCz := Lib.hid (fun W (h : Nw w7 W) => bm_copy none 0 0 0 W ltz.out (PZ.out W))
  have KRz := Lib.hid (fun W (h : Nw w7 W) => bm_runs none 0 0 0 W (PZ.out W))
  have hT7 := HT.out.step HN.out
  have KAz := Lib.hid (fun W (h : Nw w7 W) => bmall_calls none 0 0 0 9 W (PZ.out W) (by omega) (by omega) (hT7.step h))
  have KLen := Lib.hid (fun b p q C W (h : BM W b p q C) => bm_len b p q C W h)
  have KAll := Lib.hid (fun b p q C W (h : BM W b p q C) (h2 : Nw w7 W) => all_any b p q C W h (hT7.step h2))
  have KJ := Lib.hid (fun op W (h : Nw w7 W) (ho : op < 4) => set_join s1 s2 c1 c2 B1 B2 op W (HS1.out.nw h) (HS2.out.nw h) ho)
  rw [show foldJ 0 [⟨some ⟨b1, 0, none⟩, p1, q1, B1⟩, ⟨some ⟨b2, 0, none⟩, p2, q2, B2⟩] = joinN 0 B1 B2 from rfl] at KOr
  rw [show foldJ 1 [⟨some ⟨b1, 0, none⟩, p1, q1, B1⟩, ⟨some ⟨b2, 0, none⟩, p2, q2, B2⟩, ⟨some ⟨b1, 0, none⟩, p1, q1, B1⟩] = joinN 1 B1 B2 from and_again B1 B2] at KAnd
  rw [show foldJ 0 [⟨some ⟨b1, 0, none⟩, p1, q1, B1⟩, ⟨none, 0, 0, 0⟩] = B1 from or_zero B1] at KOrZ
  rw [show foldJ 1 [⟨some ⟨b1, 0, none⟩, p1, q1, B1⟩, ⟨none, 0, 0, 0⟩] = 0 from and_zero B1] at KAndZ
  rw [runs_zero] at KRz
  rw [listB_zero] at KAz
  have KJ0 := Lib.hid (fun W (h : Nw w7 W) => KJ.out 0 W h (by omega))
  have KJ1 := Lib.hid (fun W (h : Nw w7 W) => KJ.out 1 W h (by omega))
  have KJ2 := Lib.hid (fun W (h : Nw w7 W) => KJ.out 2 W h (by omega))
  have KJ3 := Lib.hid (fun W (h : Nw w7 W) => KJ.out 3 W h (by omega))
  rw [show ((0 : Nat) : Int) = 0 from rfl] at KJ0
  rw [show ((1 : Nat) : Int) = 1 from rfl] at KJ1
  rw [show ((2 : Nat) : Int) = 2 from rfl] at KJ2
  rw [show ((3 : Nat) : Int) = 3 from rfl] at KJ3
  have hbd := fun C => len_bd16 C
  have KSm := Lib.hid (fun (A D : Option Addr) (c d C : Nat) W (h1 : Kd.C (Kd.int .u16) W A (listB 1024 C).length (listB 1024 C)) (h2 : Kd.C (Kd.int .u16) W D (listB 1024 C).length (listB 1024 C)) => same_any A D c d (listB 1024 C) W h1 h2 (hbd C))
  have HLen := Lib.hid (len_all16 B1)
  have HNc := Lib.hid (Fr.refl (fun _ => False) w7)
  clear hbd hT7 KJ
  go_wp2_with (first
    | (go_at_call 21; refine (nil_has _ _).mono ?_; rintro e w8 ⟨rfl, rfl⟩)
    | (go_at_call 32; refine (nil_add _ _).mono ?_; rintro e w8 ⟨rfl, rfl⟩)
    | (go_at_call 33; refine (nil_drop _ _).mono ?_; rintro e w8 ⟨rfl, rfl⟩)
    | (go_at_call 23; refine (nil_fill _ _ _).mono ?_; rintro e w8 ⟨rfl, rfl⟩)
    | (go_at_call 22; refine (nil_wipe _ _ _).mono ?_; rintro e w8 ⟨rfl, rfl⟩)
    | (go_at_call 15; (with_reducible refine Calls.mono (nil_len _) ?_); rintro e w8 ⟨rfl, rfl⟩)
    | (go_at_call 20; refine (nil_rank _ _).mono ?_; rintro e w8 ⟨rfl, rfl⟩)
    | (go_at_call 17; refine (KRz.out _ HNc.out).mono ?_; rintro e wc ⟨rfl, hN⟩; have HNc := Lib.hid (HNc.out.trans hN); clear hN)
    | (go_at_call 14; (with_reducible refine Calls.mono (KAz.out _ HNc.out) ?_); rintro e wc ⟨Az, cz, rfl, _, hN⟩; have HNc := Lib.hid (HNc.out.trans hN); clear hN)
    | (go_at_call 31; refine (KCz.out _ HNc.out).mono ?_; rintro e wc ⟨bz, pz, qz, rfl, _, hM, hN⟩; have HMc := Lib.hid hM; have HNc := Lib.hid (HNc.out.trans hN); clear hM hN)
    | (go_at_call 15; (with_reducible refine Calls.mono (KLen.out _ _ _ _ _ HMc.out) ?_); rw [cnt_zero]; rintro e w8 ⟨rfl, rfl⟩; clear HMc))
  go_wp2_with (first
    | (go_at_call 14; (with_reducible refine Calls.mono (KAll.out _ _ _ _ _ HMc.out HNc.out) ?_); rintro e wc ⟨Aa, ca, rfl, hC, hN⟩; have HCa := Lib.hid hC; have HNc := Lib.hid (HNc.out.trans hN); clear hC hN)
    | (go_at_call 14; (with_reducible refine Calls.mono (KAll.out b1 p1 q1 B1 _ (HM1.out.nw HNc.out) HNc.out) ?_); rintro e wc ⟨Aa, ca, rfl, hC, hN⟩; have HCa := Lib.hid hC; have HNc := Lib.hid (HNc.out.trans hN); clear hC hN)
    | (go_at_call 13; (with_reducible refine Calls.mono (KSm.out _ _ _ _ _ _ HCa.out HCl.out) ?_); rintro e wc ⟨rfl, hN⟩; have HNc := Lib.hid (HNc.out.trans hN); clear hN)
    | (go_at_call 13; (with_reducible refine Calls.mono (KSm.out _ _ _ _ _ _ HCa.out (Kd.C_below HC.out (HNc.out.below (fun _ _ h => h)))) ?_); rintro e wc ⟨rfl, hN⟩; have HNc := Lib.hid (HNc.out.trans hN); clear hN)
    | (go_at_call 35; (with_reducible refine Calls.mono (KJ0.out _ HNc.out) ?_); rintro e wc ⟨sc, cc, rfl, _, hS, hN⟩; have HSc := Lib.hid hS; have HCa := Lib.hid (Kd.C_below HCa.out (hN.below (fun _ _ h => h))); have HNc := Lib.hid (HNc.out.trans hN); clear hS hN)
    | (go_at_call 35; (with_reducible refine Calls.mono (KJ1.out _ HNc.out) ?_); rintro e wc ⟨sc, cc, rfl, _, hS, hN⟩; have HSc := Lib.hid hS; have HCa := Lib.hid (Kd.C_below HCa.out (hN.below (fun _ _ h => h))); have HNc := Lib.hid (HNc.out.trans hN); clear hS hN)
    | (go_at_call 35; (with_reducible refine Calls.mono (KJ2.out _ HNc.out) ?_); rintro e wc ⟨sc, cc, rfl, _, hS, hN⟩; have HSc := Lib.hid hS; have HCa := Lib.hid (Kd.C_below HCa.out (hN.below (fun _ _ h => h))); have HNc := Lib.hid (HNc.out.trans hN); clear hS hN)
    | (go_at_call 35; (with_reducible refine Calls.mono (KJ3.out _ HNc.out) ?_); rintro e wc ⟨sc, cc, rfl, _, hS, hN⟩; have HSc := Lib.hid hS; have HCa := Lib.hid (Kd.C_below HCa.out (hN.below (fun _ _ h => h))); have HNc := Lib.hid (HNc.out.trans hN); clear hS hN)
    | (go_at_call 11; (with_reducible refine Calls.mono (list_any _ _ _ _ HSc.out) ?_); rintro e wc ⟨Al, cl, rfl, hC, hN⟩; have HCl := Lib.hid hC; have HCa := Lib.hid (Kd.C_below HCa.out (hN.below (fun _ _ h => h))); have HNc := Lib.hid (HNc.out.trans hN); clear hC hN)
    | (go_at_call 34; (with_reducible refine Calls.mono (KOr.out _ HNc.out) ?_); rintro e wc ⟨bc, pc, qc, rfl, _, hM, hN⟩; have HMc := Lib.hid hM; have HNc := Lib.hid (HNc.out.trans (((Fr.refl _ _).alloc _).trans hN)); clear hM hN)
    | (go_at_call 34; (with_reducible refine Calls.mono (KOrZ.out _ HNc.out) ?_); rintro e wc ⟨bc, pc, qc, rfl, _, hM, hN⟩; have HMc := Lib.hid hM; have HNc := Lib.hid (HNc.out.trans (((Fr.refl _ _).alloc _).trans hN)); clear hM hN)
    | (go_at_call 34; (with_reducible refine Calls.mono (bm_or_none _) ?_); rintro e wc ⟨bc, pc, qc, rfl, _, hM, hN⟩; have HMc := Lib.hid hM; have HNc := Lib.hid (HNc.out.trans hN); clear hM hN)
    | (go_at_call 36; (with_reducible refine Calls.mono (KAnd.out _ HNc.out) ?_); rintro e wc ⟨bc, pc, qc, rfl, _, hM, hN⟩; have HMc := Lib.hid hM; have HNc := Lib.hid (HNc.out.trans (((Fr.refl _ _).alloc _).trans hN)); clear hM hN)
    | (go_at_call 36; (with_reducible refine Calls.mono (KAndZ.out _ HNc.out) ?_); rintro e wc ⟨bc, pc, qc, rfl, _, hM, hN⟩; have HMc := Lib.hid hM; have HNc := Lib.hid (HNc.out.trans (((Fr.refl _ _).alloc _).trans hN)); clear hM hN)
    | (go_at_call 36; (with_reducible refine Calls.mono (bm_and_none _) ?_); rintro e wc ⟨bc, pc, qc, rfl, _, hM, hN⟩; have HMc := Lib.hid hM; have HNc := Lib.hid (HNc.out.trans hN); clear hM hN)
    | (go_at_call 37; (with_reducible refine Calls.mono (KLess.out _ HNc.out) ?_); rintro e wc ⟨bc, pc, qc, rfl, _, hM, hN⟩; have HMc := Lib.hid hM; have HNc := Lib.hid (HNc.out.trans (hN)); clear hM hN)
    | (go_at_call 38; (with_reducible refine Calls.mono (KXor.out _ HNc.out) ?_); rintro e wc ⟨bc, pc, qc, rfl, _, hM, hN⟩; have HMc := Lib.hid hM; have HNc := Lib.hid (HNc.out.trans (hN)); clear hM hN)
    | (go_at_call 15; (with_reducible refine Calls.mono (KLen.out _ _ _ _ _ HMc.out) ?_); (first | rw [cnt_zero] | rw [← HLen.out]); rintro e w8 ⟨rfl, rfl⟩))
  go_ret
  exact ⟨ret_bool (by simp), HN.out.trans HNc.out⟩

/-- For the row. -/
theorem bmjoins_row (a1 a2 : Option Addr) (cap1 cap2 : Nat) (l1 l2 : List Act4) (y : Int) (w : World) (hy : (Lit.int .u16 y).wf = true) (hA1 : AC4 w a1 l1) (hA2 : AC4 w a2 l2) (hl1 : l1.length ≤ 140737488351232) (hl2 : l2.length ≤ 140737488351232) (hT : Tb w) :
    Calls Tryd.prog 7 #[.slice a1 l1.length cap1, .slice a2 l2.length cap2, .int .u16 y] w fun e w' => e = .returned (.bool true) ∧ Nw w w' := by
  have h1 := u16_bd hy
  obtain ⟨v, rfl⟩ : ∃ b : Nat, y = b := ⟨y.toNat, by omega⟩
  exact bmjoins_walk a1 a2 cap1 cap2 l1 l2 v w (by omega) hA1 hA2 hl1 hl2 hT

end Go.Proofs.YtiekoidlibhoeaaDoor
