/-
  StripPlays: every script leaves just the document's bits, and tells how many were changed.
-/
import Derived.Deep.RegionHeld3
import Derived.Test.YtacaeahijecfeaaDoorStripBits
import Derived.Test.YtacaeahijecfeaaDoorStripAll
import Derived.Test.YtacaeahijecfeaaDoorStripAwake
import Derived.Test.YtacaeahijecfeaaDoorStripRow
namespace Go.Proofs.YtacaeahijecfeaaDoor
open Go.RowKit Go.Shelf Go.Proofs.YtacaeahijecfeaaDoorW.PrintWords Go.Proofs.YtacaeahijecfeaaDoorW.PrintMore
set_option linter.unusedVariables false
set_option linter.unusedSimpArgs false

theorem WR.C {W : World} {g n B : Nat} (h : WR W g n B) (hn : n ≤ 4096) : Kd.C (Kd.int .u64) W (some ⟨g, 0, none⟩) n (wordsI n B) :=
  Kd.C_of_reads (d := (0 : Int)) (h1 := fun _ => rfl) ⟨wordsI_len n B, by omega, fun _ => ⟨_, rfl, fun j hj => by
    have := h.cell hj
    rw [Addr.add_lit, Nat.zero_add, List.getD_eq_getElem?_getD, List.getElem?_eq_getElem (by rw [wordsI_len]; exact hj), wordsI_get]
    exact this⟩⟩
theorem WR.nw {W W1 : World} {g n B : Nat} (h : WR W g n B) (hf : Nw W W1) : WR W1 g n B := by obtain ⟨cur, h1, h2⟩ := h; exact ⟨cur, hf.blk h1 (fun h => h), h2⟩
theorem samekeys_wr (g1 g2 c1 c2 n B : Nat) (W : World) (h1 : WR W g1 n B) (h2 : WR W g2 n B) (hn : n ≤ 4096) :
    Calls Tryd.prog 18 #[.slice (some ⟨g1, 0, none⟩) n c1, .slice (some ⟨g2, 0, none⟩) n c2] W fun e w' => e = .returned (.bool true) ∧ Nw W w' := by
  have hl := wordsI_len n B
  have h := samekeys_calls (some ⟨g1, 0, none⟩) (some ⟨g2, 0, none⟩) c1 c2 (wordsI n B) (wordsI n B) W (by rw [hl]; exact h1.C hn) (by rw [hl]; exact h2.C hn) (by omega)
  rw [hl, decide_eq_true rfl] at h
  exact h
theorem same_true (A B : Option Addr) (c d : Nat) (l : List Int) (w : World) (hr : Kd.C (Kd.int .i64) w A l.length l) (hr2 : Kd.C (Kd.int .i64) w B l.length l) (hn : l.length ≤ 140737488351232) :
    Calls Tryd.prog 21 #[.slice A l.length c, .slice B l.length d] w fun e w' => e = .returned (.bool true) ∧ Nw w w' := by
  have h := same_calls A B c d l l w hr hr2 hn
  rw [decide_eq_true (rfl : l = l)] at h
  exact h

set_option maxRecDepth 100000 in
set_option maxHeartbeats 4000000 in
theorem plays_walk (b st : Nat) (a : Option Addr) (cap : Nat) (l : List Act3) (w : World) (hb : b < 256) (hst : st < 256) (hA : AC w a l) (hl : l.length ≤ 140737488351232) (hT : Tb w) :
    Calls Tryd.prog 4 #[.int .u8 b, .slice a l.length cap, .int .u8 st] w fun e w' => e = .returned (.bool true) ∧ Nw w w' := by
  have e5 : (st : Int).tmod 9 = ((st % 9 : Nat) : Int) := by rw [Int.tmod_eq_emod_of_nonneg (by omega)]; rfl
  have e6 : (st : Int) % 9 = ((st % 9 : Nat) : Int) := rfl
  have hr9 : st % 9 < 9 := Nat.mod_lt _ (by decide)
  obtain ⟨r, hr⟩ : ∃ r, r = st % 9 := ⟨_, rfl⟩
  rw [← hr] at e5 e6 hr9
  clear hr
  have HT := Lib.hid hT
  have HA := Lib.hid hA
  have HL := Lib.hid (fun W h => lay_calls b a cap l W hb h hl)
  have hn5 : b % 5 < 5 := Nat.mod_lt _ (by decide)
  obtain ⟨n, hn⟩ : ∃ n, n = b % 5 := ⟨_, rfl⟩
  obtain ⟨B, hB⟩ : ∃ B, B = layN (b % 5) (l.take 25) := ⟨_, rfl⟩
  rw [← hB] at HL
  rw [← hn] at HL hn5
  clear hT hA hn hB
  go_enter Tryd.func4, Tryd.ntmps4
  go_wp2_with (first | (go_at_call 10; refine (awake_calls w HT.out).mono ?_; rintro e w1 ⟨rfl, hN1⟩; have HN1 := Lib.hid hN1) | (go_at_call 11; refine (HL.out _ (HA.out.nw HN1.out)).mono ?_; rintro e w2 ⟨p, q, A, c, rfl, hp, hq, hS, hR, hN⟩; have HN2 := Lib.hid (HN1.out.trans hN); have HS2 := Lib.hid hS; have HR2 := Lib.hid hR; clear hN hS hR))
  have hbx := blk_new w2 (.cells #[.int .i64 n, .slice A (listB n B).length c] 27)
  have hN3 := HN2.out.alloc (.cells #[.int .i64 n, .slice A (listB n B).length c] 27)
  have hS3 : St (w2.alloc (.cells #[.int .i64 n, .slice A (listB n B).length c] 27)) p q n B := HS2.out.nw ((Fr.refl (fun _ => False) _).alloc _) (fun h => h) (fun h => h)
  have hR3 : Kd.C (Kd.int .i64) (w2.alloc (.cells #[.int .i64 n, .slice A (listB n B).length c] 27)) A (listB n B).length (listB n B) := by
    obtain ⟨A', c', he, _, hC⟩ := Kd.R_reads HR2.out
    cases he
    exact Kd.C_below hC ((Below.refl _ _).alloc (Nat.le_refl _) _)
  have hx0 : (w2.alloc (.cells #[.int .i64 n, .slice A (listB n B).length c] 27)).cell? ⟨w2.heap.size, 0, none⟩ = some (.int .i64 n) := blk_cell hbx 0
  have hx1 : (w2.alloc (.cells #[.int .i64 n, .slice A (listB n B).length c] 27)).cell? ⟨w2.heap.size, 1, none⟩ = some (.slice A (listB n B).length c) := blk_cell hbx 1
  have hT3 := HT.out.step hN3
  obtain ⟨w3, hw3⟩ : ∃ w3, w3 = w2.alloc (.cells #[.int .i64 n, .slice A (listB n B).length c] 27) := ⟨_, rfl⟩
  rw [← hw3] at hx0 hx1 hS3 hN3 hR3 hT3 ⊢
  clear hw3 hbx hp hq
  have HS3 := Lib.hid hS3
  have HN3 := Lib.hid hN3
  have HR3 := Lib.hid hR3
  have HT3 := Lib.hid hT3
  clear e5 e6
  have hll := listB_len n B
  have hlt3 := hS3.lt
  have hle3 := hS3.le
  have K1 := Lib.hid (fun W (h : Nw w3 W) => swords_calls p q n B W (HS3.out.nw h (fun h => h) (fun h => h)))
  have K2 := Lib.hid (fun W (h : Nw w3 W) => refbits_calls A c n B W hle3 hlt3 (Kd.C_below HR3.out (h.below (fun _ _ h => h))))
  have K3 := Lib.hid (fun W (h : Nw w3 W) => sall_calls (some ⟨p, 0, none⟩) q n B 1000 W (.inl ⟨p, rfl, HS3.out.nw h (fun h => h) (fun h => h)⟩) (by omega) (by omega) (HT3.out.step h))
  have K4 := Lib.hid (fun W (h : Nw w3 W) => sall_calls (some ⟨p, 0, none⟩) q n B (1 + r) W (.inl ⟨p, rfl, HS3.out.nw h (fun h => h) (fun h => h)⟩) (by omega) (by omega) (HT3.out.step h))
  have K5 := Lib.hid (fun W (h : Nw w3 W) => ints_calls A c (listB n B) (1 + r) W (Kd.C_below HR3.out (h.below (fun _ _ h => h))) (by omega) (by omega))
  have K6 := Lib.hid (fun W (h : Nw w3 W) => bits_calls p q n B W (HS3.out.nw h (fun h => h) (fun h => h)))
  rw [List.take_of_length_le (show (listB n B).length ≤ 1000 by omega)] at K3
  rw [show ((1000 : Nat) : Int) = 1000 from rfl] at K3
  obtain ⟨lk, hlk⟩ : ∃ lk, lk = (listB n B).take (1 + r) := ⟨_, rfl⟩
  rw [← hlk] at K4 K5
  have hlk2 : lk.length ≤ 1000 := by rw [hlk, List.length_take]; omega
  have he1 : ((1 + r : Nat) : Int) = 1 + (r : Int) := by omega
  rw [he1] at K4 K5
  have K7 := Lib.hid (fun (W : World) (A1 : Option Addr) (c1 : Nat) (h : Nw w3 W) (hc : Kd.C (Kd.int .i64) W A1 (listB n B).length (listB n B)) => same_true A1 A c1 c (listB n B) W hc (Kd.C_below HR3.out (h.below (fun _ _ h => h))) (by omega))
  have K8 := Lib.hid (fun (W : World) (A1 A2 : Option Addr) (c1 c2 : Nat) (h1 : Kd.C (Kd.int .i64) W A1 lk.length lk) (h2 : Kd.C (Kd.int .i64) W A2 lk.length lk) => same_true A1 A2 c1 c2 lk W h1 h2 (by omega))
  obtain ⟨L, hL⟩ : ∃ L, L = (listB n B).length := ⟨_, rfl⟩
  rw [← hL] at hx1 K2 K3 K5 K7 ⊢
  obtain ⟨Lk, hLk⟩ : ∃ L, L = lk.length := ⟨_, rfl⟩
  rw [← hLk] at K4 K8
  have HLk := Lib.hid hLk
  have HLB : Hid (L = (listB n B).length) := Lib.hid hL
  have hNL : n ≤ 4096 := hle3
  clear hL hLk hlk he1 hlk2 hR3 hS3 hT3 hN3 hll hlt3 hle3
  have hs : IntKind.i64.wrap (64 * (n : Int)) = 64 * (n : Int) := IntWalk.i64_in _ (by omega)
  go_region_held3 (fun w' => w'.cell? ⟨w2.heap.size, 0, none⟩ = some (.int .i64 n) ∧ w'.cell? ⟨w2.heap.size, 1, none⟩ = some (.slice A L c) ∧ Nw w3 w')
    (first
      | exact ⟨hx0, hx1, (Fr.refl (fun _ => False) w3).drew⟩
      | (go_split_ands; exact ⟨hF.cell (by assumption) (fun h => h), hF.cell (by assumption) (fun h => h), Fr.trans (by assumption) hF⟩)
      | (go_split_ands; exact ⟨by assumption, by assumption, by assumption⟩))
    (first
      | (go_at_call 19; refine (K1.out _ (by go_split_ands; assumption)).mono ?_; rintro e wa ⟨g1, cc1, cur1, rfl, hg1, hb1, hs1, ht1, hF⟩; have HW1 : Hid (WR wa g1 n B) := Lib.hid ⟨cur1, hb1, hs1, ht1⟩; clear hb1 hs1 ht1 hg1)
      | (go_at_call 20; refine (K2.out _ (by go_split_ands; assumption)).mono ?_; rintro e wb ⟨g2, cc2, rfl, hg2, hW2, hF⟩; have HW3 := Lib.hid (HW1.out.nw hF); have HW2 := Lib.hid hW2; clear hg2 hW2)
      | (go_at_call 18; refine (samekeys_wr _ _ _ _ n B _ HW3.out HW2.out hNL).mono ?_; rintro e wc ⟨rfl, hF⟩)
      | (go_at_call 22; (with_reducible refine Calls.mono (K3.out _ (by go_split_ands; assumption)) ?_); rintro e wd ⟨A1, cc3, rfl, hC1, hF⟩; have HC1 := Lib.hid hC1; clear hC1)
      | (go_at_call 21; (with_reducible refine Calls.mono (K7.out _ _ _ (by go_split_ands; assumption) HC1.out) ?_); rintro e we ⟨rfl, hF⟩)
      | (go_at_call 22; (with_reducible refine Calls.mono (K4.out _ (by go_split_ands; assumption)) ?_); rintro e wf ⟨A2, cc4, rfl, hC2, hF⟩; have HC2 := Lib.hid hC2; clear hC2)
      | (go_at_call 23; refine (K5.out _ (by go_split_ands; assumption)).mono ?_; rintro e wg ⟨v, rfl, ho, hb⟩; obtain ⟨A3, cc5, rfl, _, hC3⟩ := Kd.R_reads ho; have hF := Fr.of_below (S := fun _ => False) hb; rw [← HLk.out] at hC3; rw [← HLk.out]; have HC4 := Lib.hid (Kd.C_below HC2.out hb); have HC3 := Lib.hid hC3; clear ho hb hC3)
      | (go_at_call 21; (with_reducible refine Calls.mono (K8.out _ _ _ _ _ HC4.out HC3.out) ?_); rintro e wh ⟨rfl, hF⟩)
      | (go_at_call 24; refine (K6.out _ (by go_split_ands; assumption)).mono ?_; rintro e wi ⟨rfl, rfl⟩))
  go_wp2
  go_ret
  exact ⟨rfl, Fr.trans HN3.out (by go_split_ands; assumption)⟩

/-- For the row. -/
theorem plays_row (x : Int) (a : Option Addr) (cap : Nat) (l : List Act3) (y : Int) (w : World) (hx : (Lit.int .u8 x).wf = true) (hy : (Lit.int .u8 y).wf = true) (hA : AC w a l) (hl : l.length ≤ 140737488351232) (hT : Tb w) :
    Calls Tryd.prog 4 #[.int .u8 x, .slice a l.length cap, .int .u8 y] w fun e w' => e = .returned (.bool true) ∧ Nw w w' := by
  have h := u8_bd hx
  have h2 := u8_bd hy
  obtain ⟨b, rfl⟩ : ∃ b : Nat, x = b := ⟨x.toNat, by omega⟩
  obtain ⟨st, rfl⟩ : ∃ b : Nat, y = b := ⟨y.toNat, by omega⟩
  exact plays_walk b st a cap l w (by omega) (by omega) hA hl hT

end Go.Proofs.YtacaeahijecfeaaDoor
