/-
  The walk of the law BitWalks.
-/
import Derived.Test.YtkglhinlnkdajaaDoorBitLaw2
import Derived.Test.YtkglhinlnkdajaaDoorBitShelf
import Derived.Test.YtkglhinlnkdajaaDoorBitWalk
namespace Go.Proofs.YtkglhinlnkdajaaDoor
open Go.RowKit Go.Proofs.YtkglhinlnkdajaaDoorW.PrintWords Go.Proofs.YtkglhinlnkdajaaDoorW.PrintMore
set_option linter.unusedVariables false
set_option linter.unusedSimpArgs false

set_option maxHeartbeats 600000 in
set_option maxRecDepth 100000 in
theorem walks_calls (x s : Nat) (w : World) (hx : x < 18446744073709551616) (hs : s < 256) (hT : Tb w) :
    Calls Tryd.prog 9 #[.int .u64 x, .int .u8 s] w fun e w' => e = .returned (.bool true) ∧ Nw w w' := by
  have HT := Lib.hid hT
  have HX := Lib.hid hx
  clear hT hx
  go_enter Tryd.func9, Tryd.ntmps9
  go_wp2_with (go_at_call 10; refine (bawake_calls _ HT.out).mono ?_; rintro e w1 ⟨rfl, hf⟩; have HQ : Hid (Q w w1) := Lib.hid ⟨HT.out.step hf, hf⟩; clear hf HT)
  refine (list_calls x _ HX.out).mono ?_
  rintro e w2 ⟨v, rfl, ho, hb⟩
  have HR := Lib.hid ho
  have HQ2 := Lib.hid (HQ.out.step (Fr.of_below hb))
  have hl := listW_len x
  have hU := fun k W hk1 hk2 hT => walk_up x k W HX.out hk1 hk2 hT
  have hD := fun k W hk1 hk2 hT => walk_down x k W HX.out hk1 hk2 hT
  obtain ⟨l, hl0⟩ : ∃ l, l = listW x := ⟨_, rfl⟩
  rw [← hl0] at HR hl hU hD
  have HU := Lib.hid hU
  have HD := Lib.hid hD
  obtain ⟨A, c, rfl, hc, hC⟩ := Kd.R_reads HR.out
  have HC := Lib.hid hC
  clear ho hb HQ hl0 hU hD hC
  go_wp2_with (fail)
  refine (clone_calls _ HR.out (by omega)).mono ?_
  rintro e w3 ⟨v2, rfl, ho, hb⟩
  have HC3 := Lib.hid (C_nw HC.out (Fr.of_below hb))
  have HB2 := Lib.hid ho
  have HQ3 := Lib.hid (HQ2.out.step (Fr.of_below hb))
  have HBe := Lib.hid hb
  have HQ2' := HQ2
  clear ho hb HQ2 HR
  go_wp2_with (fail)
  refine (reverse_calls _ HB2.out (by omega)).mono ?_
  rintro e w4 ⟨rfl, ho, hb⟩
  have hbt := HBe.out.trans hb
  have HC4 := Lib.hid (C_nw HC.out (Fr.of_below hbt))
  have HQ4 := Lib.hid (HQ2'.out.step (Fr.of_below hbt))
  obtain ⟨A2, c2, rfl, hc2, hC2⟩ := Kd.R_reads ho
  have HD4 := Lib.hid hC2
  clear ho hb hC2 HC HC3 HB2 HQ3 HBe hbt
  go_wp2_with (fail)
  obtain ⟨k, hk, hk1, hk2⟩ : ∃ k : Nat, 1 + (s : Int) % 70 = k ∧ 1 ≤ k ∧ k ≤ 70 := ⟨1 + s % 70, by omega, by omega, by omega⟩
  rw [hk]
  clear hk
  obtain ⟨t, ht⟩ : ∃ t, t = l.take k := ⟨_, rfl⟩
  obtain ⟨u, hu⟩ : ∃ u, u = l.reverse.take k := ⟨_, rfl⟩
  have HUt := Lib.hid (fun W h => HU.out k W hk1 hk2 h)
  have HDu := Lib.hid (fun W h => HD.out k W hk1 hk2 h)
  have HIt := Lib.hid (fun W h => ints_calls A c l k W h (by omega) (by omega))
  have HIu := Lib.hid (fun W h => ints_calls A2 c2 l.reverse k W h (by rw [List.length_reverse]; omega) (by omega))
  have hlt : t.length ≤ 64 := by rw [ht, List.length_take]; omega
  have hlu : u.length ≤ 64 := by rw [hu, List.length_take, List.length_reverse]; omega
  rw [← ht] at HUt HIt
  rw [← hu] at HDu HIu
  rw [List.length_reverse] at HIu HD4
  clear ht hu HU HD hk1 hk2
  refine (HUt.out _ HQ4.out.1).mono ?_
  rintro e w5 ⟨A5, c5, rfl, hC5, hf5⟩
  have HI5 := Lib.hid (HIt.out w5 (C_nw HC4.out hf5))
  replace HQ4 := Lib.hid (HQ4.out.step hf5)
  replace HD4 := Lib.hid (C_nw HD4.out hf5)
  have HX5 := Lib.hid hC5
  clear hC5 hf5
  go_wp2_with (fail)
  refine (HI5.out).mono ?_
  rintro e y5 ⟨v5, rfl, ho5, hb5⟩
  obtain ⟨B5, d5, rfl, hd5, hY5⟩ := Kd.R_reads ho5
  have HS5 := Lib.hid (same_true A5 B5 c5 d5 _ _ (C_nw HX5.out (Fr.of_below hb5)) hY5 (by omega))
  replace HQ4 := Lib.hid (HQ4.out.step (Fr.of_below hb5))
  replace HD4 := Lib.hid (C_nw HD4.out (Fr.of_below hb5))
  clear ho5 hb5 hY5 HI5 HX5
  go_wp2_with (fail)
  refine (HS5.out).mono ?_
  rintro e z5 ⟨rfl, hf5⟩
  replace HQ4 := Lib.hid (HQ4.out.step hf5)
  replace HD4 := Lib.hid (C_nw HD4.out hf5)
  clear hf5 HS5
  go_wp2_with (fail)
  refine (HDu.out _ HQ4.out.1).mono ?_
  rintro e w6 ⟨A6, c6, rfl, hC6, hf6⟩
  have HI6 := Lib.hid (HIu.out w6 (C_nw HD4.out hf6))
  replace HQ4 := Lib.hid (HQ4.out.step hf6)
  replace HD4 := Lib.hid (C_nw HD4.out hf6)
  have HX6 := Lib.hid hC6
  clear hC6 hf6
  go_wp2_with (fail)
  refine (HI6.out).mono ?_
  rintro e y6 ⟨v6, rfl, ho6, hb6⟩
  obtain ⟨B6, d6, rfl, hd6, hY6⟩ := Kd.R_reads ho6
  have HS6 := Lib.hid (same_true A6 B6 c6 d6 _ _ (C_nw HX6.out (Fr.of_below hb6)) hY6 (by omega))
  replace HQ4 := Lib.hid (HQ4.out.step (Fr.of_below hb6))
  replace HD4 := Lib.hid (C_nw HD4.out (Fr.of_below hb6))
  clear ho6 hb6 hY6 HI6 HX6
  go_wp2_with (fail)
  refine (HS6.out).mono ?_
  rintro e z6 ⟨rfl, hf6⟩
  replace HQ4 := Lib.hid (HQ4.out.step hf6)
  replace HD4 := Lib.hid (C_nw HD4.out hf6)
  clear hf6 HS6
  go_wp2
  go_ret
  exact ⟨rfl, HQ4.out.2⟩
theorem walks_row (x0 x1 : Int) (w : World) (h0 : (Lit.int .u64 x0).wf = true) (h1 : (Lit.int .u8 x1).wf = true) (hT : Tb w) :
    Calls Tryd.prog 9 #[.int .u64 x0, .int .u8 x1] w fun e w' => e = .returned (.bool true) ∧ Nw w w' := by
  have a := u64_bd h0
  have b := u8_bd h1
  obtain ⟨n, rfl⟩ : ∃ n : Nat, x0 = n := ⟨x0.toNat, by omega⟩
  obtain ⟨m, rfl⟩ : ∃ n : Nat, x1 = n := ⟨x1.toNat, by omega⟩
  exact walks_calls n m w (by omega) (by omega) hT
end Go.Proofs.YtkglhinlnkdajaaDoor
