/-
  StripAsks: each bit, the next and the last one, how many are below, and the k-th are the document's.
-/
import Derived.Deep.RegionHeld3
import Derived.Test.YtacaeahijecfeaaDoorStripLaw2
namespace Go.Proofs.YtacaeahijecfeaaDoor
open Go.RowKit Go.Shelf Go.Proofs.YtacaeahijecfeaaDoorW.PrintWords Go.Proofs.YtacaeahijecfeaaDoorW.PrintMore
set_option linter.unusedVariables false
set_option linter.unusedSimpArgs false

set_option maxRecDepth 100000 in
set_option maxHeartbeats 4000000 in
theorem asks_walk (b : Nat) (a : Option Addr) (cap : Nat) (l : List Act3) (i k : Int) (w : World) (hb : b < 256) (hA : AC w a l) (hl : l.length ≤ 140737488351232) (hT : Tb w) (hk : k ≤ 9223372036854775807) :
    Calls Tryd.prog 7 #[.int .u8 b, .slice a l.length cap, .int .i64 i, .int .i64 k] w fun e w' => e = .returned (.bool true) ∧ Nw w w' := by
  have HT := Lib.hid hT
  have HA := Lib.hid hA
  have HL := Lib.hid (fun W h => lay_calls b a cap l W hb h hl)
  have hn5 : b % 5 < 5 := Nat.mod_lt _ (by decide)
  obtain ⟨n, hn⟩ : ∃ n, n = b % 5 := ⟨_, rfl⟩
  obtain ⟨B, hB⟩ : ∃ B, B = layN (b % 5) (l.take 25) := ⟨_, rfl⟩
  rw [← hB] at HL
  rw [← hn] at HL hn5
  clear hT hA hn hB
  go_enter Tryd.func7, Tryd.ntmps7
  go_wp2_with (first | (go_at_call 10; refine (awake_calls w HT.out).mono ?_; rintro e w1 ⟨rfl, hN1⟩; have HN1 := Lib.hid hN1) | (go_at_call 11; refine (HL.out _ (HA.out.nw HN1.out)).mono ?_; rintro e w2 ⟨p, q, A, c, rfl, hp, hq, hS, hR, hN⟩; have HN2 := Lib.hid (HN1.out.trans hN); have HS2 := Lib.hid hS; have HR2 := Lib.hid hR; clear hN hS hR))
  have hbx := blk_new w2 (.cells #[.int .i64 n, .slice A (listB n B).length c] 27)
  have hN3 := HN2.out.alloc (.cells #[.int .i64 n, .slice A (listB n B).length c] 27)
  have hS3 : St (w2.alloc (.cells #[.int .i64 n, .slice A (listB n B).length c] 27)) p q n B := HS2.out.nw ((Fr.refl (fun _ => False) _).alloc _) (fun h => h) (fun h => h)
  have hR3 : Kd.C (Kd.int .i64) (w2.alloc (.cells #[.int .i64 n, .slice A (listB n B).length c] 27)) A (listB n B).length (listB n B) := by
    obtain ⟨A', c', he, _, hC⟩ := Kd.R_reads HR2.out
    cases he
    exact Kd.C_below hC ((Below.refl _ _).alloc (Nat.le_refl _) _)
  have hx0 : (w2.alloc (.cells #[.int .i64 n, .slice A (listB n B).length c] 27)).cell? ⟨w2.heap.size, 0, none⟩ = some (.int .i64 n) := blk_cell hbx 0
  have hx1 : (w2.alloc (.cells #[.int .i64 n, .slice A (listB n B).length c] 27)).cell? ⟨w2.heap.size, 1, none⟩ = some (.slice A (listB n B).length c) := blk_cell hbx 1
  have hT3 := HT.out.step hN3
  obtain ⟨w3, hw3⟩ : ∃ w3, w3 = w2.alloc (.cells #[.int .i64 n, .slice A (listB n B).length c] 27) := ⟨_, rfl⟩
  rw [← hw3] at hx0 hx1 hS3 hN3 hR3 hT3 ⊢
  clear hw3 hbx hp hq
  have HS3 := Lib.hid hS3
  have HN3 := Lib.hid hN3
  have HR3 := Lib.hid hR3
  have HT3 := Lib.hid hT3
  have hll := listB_len n B
  have K1 := Lib.hid (fun W (h : Nw w3 W) => sget_calls (some ⟨p, 0, none⟩) q n B i W (.inl ⟨p, rfl, HS3.out.nw h (fun h => h) (fun h => h)⟩))
  have K2 := Lib.hid (fun W (h : Nw w3 W) => snext_calls (some ⟨p, 0, none⟩) q n B i W (.inl ⟨p, rfl, HS3.out.nw h (fun h => h) (fun h => h)⟩) (HT3.out.step h))
  have K3 := Lib.hid (fun W (h : Nw w3 W) => sprev_calls p q n B i W (HS3.out.nw h (fun h => h) (fun h => h)))
  have K4 := Lib.hid (fun W (h : Nw w3 W) => srank_calls (some ⟨p, 0, none⟩) q n B i W (.inl ⟨p, rfl, HS3.out.nw h (fun h => h) (fun h => h)⟩))
  have K5 := Lib.hid (fun W (h : Nw w3 W) => sselect_calls p q n B k W (HS3.out.nw h (fun h => h) (fun h => h)) hk)
  have K6 := Lib.hid (fun W (h : Nw w3 W) => scount_calls (some ⟨p, 0, none⟩) q n B W (.inl ⟨p, rfl, HS3.out.nw h (fun h => h) (fun h => h)⟩))
  have R1 := Lib.hid (fun W (h : Nw w3 W) => has_calls A c (listB n B) i W (Kd.C_below HR3.out (h.below (fun _ _ h => h))) (by omega))
  have R2 := Lib.hid (fun W (h : Nw w3 W) => next_calls A c (listB n B) i W (Kd.C_below HR3.out (h.below (fun _ _ h => h))) (by omega))
  have R3 := Lib.hid (fun W (h : Nw w3 W) => prev_calls A c (listB n B) i W (Kd.C_below HR3.out (h.below (fun _ _ h => h))) (by omega))
  have R4 := Lib.hid (fun W (h : Nw w3 W) => rank_calls A c (listB n B) i W (Kd.C_below HR3.out (h.below (fun _ _ h => h))) (by omega))
  have R5 := Lib.hid (fun W (h : Nw w3 W) => select_calls A c (listB n B) k W (Kd.C_below HR3.out (h.below (fun _ _ h => h))) (by omega))
  rw [get_has] at K1
  rw [rank_toN] at K4
  rw [← len_listB] at K6
  obtain ⟨L, hL⟩ : ∃ L, L = (listB n B).length := ⟨_, rfl⟩
  rw [← hL] at hx1 K6 R1 R2 R3 R4 R5 ⊢
  obtain ⟨g1, hg1⟩ : ∃ x, x = hasL (listB n B) i := ⟨_, rfl⟩
  rw [← hg1] at K1 R1
  obtain ⟨g2, hg2⟩ : ∃ x, x = nextL (listB n B) i := ⟨_, rfl⟩
  rw [← hg2] at K2 R2
  obtain ⟨g3, hg3⟩ : ∃ x, x = prevL (listB n B) i := ⟨_, rfl⟩
  rw [← hg3] at K3 R3
  obtain ⟨g4, hg4⟩ : ∃ x, x = rankL (listB n B) i := ⟨_, rfl⟩
  rw [← hg4] at K4 R4
  obtain ⟨g5, hg5⟩ : ∃ x, x = selectL (listB n B) k := ⟨_, rfl⟩
  rw [← hg5] at K5 R5
  clear hL hg1 hg2 hg3 hg4 hg5 hR3 hS3 hT3 hN3 hll
  have hN0 := (Fr.refl (fun _ => False) w3)
  go_region_held3 (fun w' => w'.cell? ⟨w2.heap.size, 1, none⟩ = some (.slice A L c) ∧ Nw w3 w')
    (first
      | exact ⟨hx1, (Fr.refl (fun _ => False) w3).drew⟩
      | (go_split_ands; exact ⟨hF.cell (by assumption) (fun h => h), Fr.trans (by assumption) hF⟩)
      | (go_split_ands; exact ⟨by assumption, by assumption⟩))
    (first
      | (go_at_call 32; refine (K1.out _ (by go_split_ands; assumption)).mono ?_; rintro e wa ⟨rfl, rfl⟩)
      | (go_at_call 31; refine (R1.out _ (by go_split_ands; assumption)).mono ?_; rintro e wa ⟨rfl, rfl⟩)
      | (go_at_call 34; refine (K2.out _ (by go_split_ands; assumption)).mono ?_; rintro e wa ⟨rfl, hF⟩)
      | (go_at_call 35; refine (R2.out _ (by go_split_ands; assumption)).mono ?_; rintro e wa ⟨rfl, rfl⟩)
      | (go_at_call 36; refine (K3.out _ (by go_split_ands; assumption)).mono ?_; rintro e wa ⟨rfl, hF⟩)
      | (go_at_call 37; refine (R3.out _ (by go_split_ands; assumption)).mono ?_; rintro e wa ⟨rfl, rfl⟩)
      | (go_at_call 13; refine (K4.out _ (by go_split_ands; assumption)).mono ?_; rintro e wa ⟨rfl, hF⟩)
      | (go_at_call 38; refine (R4.out _ (by go_split_ands; assumption)).mono ?_; rintro e wa ⟨rfl, rfl⟩)
      | (go_at_call 39; refine (K5.out _ (by go_split_ands; assumption)).mono ?_; rintro e wa ⟨rfl, hF⟩)
      | (go_at_call 40; refine (R5.out _ (by go_split_ands; assumption)).mono ?_; rintro e wa ⟨rfl, rfl⟩)
      | (go_at_call 15; refine (K6.out _ (by go_split_ands; assumption)).mono ?_; rintro e wa ⟨rfl, hF⟩))
  go_wp2
  go_ret
  exact ⟨rfl, Fr.trans HN3.out (by go_split_ands; assumption)⟩

/-- For the row. -/
theorem asks_row (x : Int) (a : Option Addr) (cap : Nat) (l : List Act3) (i k : Int) (w : World) (hx : (Lit.int .u8 x).wf = true) (hkw : (Lit.int .i64 k).wf = true) (hA : AC w a l) (hl : l.length ≤ 140737488351232) (hT : Tb w) :
    Calls Tryd.prog 7 #[.int .u8 x, .slice a l.length cap, .int .i64 i, .int .i64 k] w fun e w' => e = .returned (.bool true) ∧ Nw w w' := by
  have h := u8_bd hx
  obtain ⟨b, rfl⟩ : ∃ b : Nat, x = b := ⟨x.toNat, by omega⟩
  exact asks_walk b a cap l i k w (by omega) hA hl hT (i64_bd hkw).2

end Go.Proofs.YtacaeahijecfeaaDoor
