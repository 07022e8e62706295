/-
  The law's awake: the document's example.
-/
import Derived.Test.YtacaeahijecfeaaDoorStripNext
import Derived.Test.YtacaeahijecfeaaDoorStripLay
namespace Go.Proofs.YtacaeahijecfeaaDoor
open Go.RowKit Go.Shelf Go.Proofs.YtacaeahijecfeaaDoorW.PrintWords Go.Proofs.YtacaeahijecfeaaDoorW.PrintMore
set_option linter.unusedVariables false
set_option linter.unusedSimpArgs false

theorem aw_plain : ∃ N1 N2 N3 : Nat, ((inB 2 3 && !(0 : Nat).testBit (3 : Int).toNat) = true ∧ setB 2 0 3 = N1) ∧ ((inB 2 70 && !N1.testBit (70 : Int).toNat) = true ∧ setB 2 N1 70 = N2) ∧ nextL (listB 2 N2) 4 = 70 ∧ segN N2 0 (toN 70 (64 * 2)) = 1 ∧
    (toN 66 (64 * 2) - fromN 60 - segN N2 (fromN 60) (toN 66 (64 * 2)) = 6 ∧ fillN N2 (fromN 60) (toN 66 (64 * 2)) = N3) ∧ segN N3 0 (64 * 2) = 8 :=
  ⟨_, _, _, ⟨by decide +kernel, rfl⟩, ⟨by decide +kernel, rfl⟩, by decide +kernel, by decide +kernel, ⟨by decide +kernel, rfl⟩, by decide +kernel⟩

set_option maxRecDepth 100000 in
set_option maxHeartbeats 1000000 in
theorem awake_calls (w : World) (hT : Tb w) : Calls Tryd.prog 10 #[] w fun e w' => e = .returned (.bool true) ∧ Nw w w' := by
  obtain ⟨N1, N2, N3, ⟨a1, a2⟩, ⟨a3, a4⟩, a5, a6, ⟨a7, a8⟩, a9⟩ := aw_plain
  have HT := Lib.hid hT
  have H1 := Lib.hid (fun (p q : Nat) (W : World) (h : SP W (some ⟨p, 0, none⟩) q 2 0) => sset_calls (some ⟨p, 0, none⟩) q 2 0 3 W h)
  have H2 := Lib.hid (fun (p q : Nat) (W : World) (h : SP W (some ⟨p, 0, none⟩) q 2 N1) => sset_calls (some ⟨p, 0, none⟩) q 2 N1 70 W h)
  have H3 := Lib.hid (fun (p q : Nat) (W : World) (h : SP W (some ⟨p, 0, none⟩) q 2 N2) (hT : Tb W) => snext_calls (some ⟨p, 0, none⟩) q 2 N2 4 W h hT)
  have H4 := Lib.hid (fun (p q : Nat) (W : World) (h : SP W (some ⟨p, 0, none⟩) q 2 N2) => srank_calls (some ⟨p, 0, none⟩) q 2 N2 70 W h)
  have H5 := Lib.hid (fun (p q : Nat) (W : World) (h : SP W (some ⟨p, 0, none⟩) q 2 N2) => fill_calls (some ⟨p, 0, none⟩) q 2 N2 60 66 W h)
  have H6 := Lib.hid (fun (p q : Nat) (W : World) (h : SP W (some ⟨p, 0, none⟩) q 2 N3) => scount_calls (some ⟨p, 0, none⟩) q 2 N3 W h)
  rw [a1, a2] at H1
  rw [a3, a4] at H2
  rw [a5] at H3
  rw [a6] at H4
  rw [a7, a8] at H5
  rw [a9] at H6
  clear a1 a2 a3 a4 a5 a6 a7 a8 a9 hT
  go_enter Tryd.func10, Tryd.ntmps10
  go_wp2_with (first
    | (go_at_call 33; refine (new_calls 2 _ (by omega)).mono ?_; rintro e w1 ⟨p, q, rfl, hp, hq, hS, hN⟩; have HS0 : Hid (SP w1 (some ⟨p, 0, none⟩) q 2 0) := Lib.hid (.inl ⟨p, rfl, hS⟩); have HN0 := Lib.hid hN; clear hS hN)
    | (go_at_call 28; (with_reducible refine Calls.mono (H1.out p q _ HS0.out) ?_); rintro e w2 ⟨rfl, hS, hF⟩; have HS1 := Lib.hid hS; have HN1 := Lib.hid (HN0.out.trans_of hF (fun y hy h => by have : y = q := h; omega)); clear hS hF)
    | (go_at_call 28; (with_reducible refine Calls.mono (H2.out p q _ HS1.out) ?_); rintro e w3 ⟨rfl, hS, hF⟩; have HS2 := Lib.hid hS; have HN2 := Lib.hid (HN1.out.trans_of hF (fun y hy h => by have : y = q := h; omega)); clear hS hF)
    | (go_at_call 34; (with_reducible refine Calls.mono (H3.out p q _ HS2.out (HT.out.step HN2.out)) ?_); rintro e w4 ⟨rfl, hF⟩; have HS3 := Lib.hid (HS2.out.nw hF); have HN3 := Lib.hid (HN2.out.trans hF); clear hF)
    | (go_at_call 13; (with_reducible refine Calls.mono (H4.out p q _ HS3.out) ?_); rintro e w5 ⟨rfl, hF⟩; have HS4 := Lib.hid (HS3.out.nw hF); have HN4 := Lib.hid (HN3.out.trans hF); clear hF)
    | (go_at_call 17; (with_reducible refine Calls.mono (H5.out p q _ HS4.out) ?_); rintro e w6 ⟨rfl, hS, hF⟩; have HS5 := Lib.hid hS; have HN5 := Lib.hid (HN4.out.trans_of hF (fun y hy h => by have : y = q := h; omega)); clear hS hF)
    | (go_at_call 15; (with_reducible refine Calls.mono (H6.out p q _ HS5.out) ?_); rintro e w7 ⟨rfl, hF⟩; have HN6 := Lib.hid (HN5.out.trans hF); clear hF))
  go_ret
  exact ⟨rfl, HN6.out⟩

end Go.Proofs.YtacaeahijecfeaaDoor
