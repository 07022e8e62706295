/-
  StripInverse: rank and select undo each other over all words.
-/
import Derived.Test.YtacaeahijecfeaaDoorStripAwake
import Derived.Test.YtacaeahijecfeaaDoorStripRow
import Derived.Test.YtacaeahijecfeaaDoorStripSel
namespace Go.Proofs.YtacaeahijecfeaaDoor
open Go.RowKit Go.Shelf Go.Proofs.YtacaeahijecfeaaDoorW.PrintWords Go.Proofs.YtacaeahijecfeaaDoorW.PrintMore
set_option linter.unusedVariables false
set_option linter.unusedSimpArgs false

theorem rank_toN (n B : Nat) (i : Int) : segN B 0 (toN i (64 * n)) = rankL (listB n B) i := by
  rw [rank_clamp]
  congr 1
  unfold toN; omega
theorem get_has (n B : Nat) (i : Int) : getB n B i = hasL (listB n B) i := by
  rw [has_listB, getB, inB, Bool.eq_iff_iff, Bool.and_eq_true, decide_eq_true_iff, decide_eq_true_iff]
  constructor
  · rintro ⟨⟨h1, h2⟩, h3⟩; exact ⟨h1, h2, h3⟩
  · rintro ⟨h1, h2, h3⟩; exact ⟨⟨h1, h2⟩, h3⟩
theorem sel_neg (n B : Nat) (k : Int) (h : selectL (listB n B) k < 0) : k < 0 ∨ ((listB n B).length : Int) ≤ k := by
  by_cases hk : k < 0
  · exact .inl hk
  · right
    obtain ⟨m, rfl⟩ : ∃ m : Nat, k = m := ⟨k.toNat, by omega⟩
    by_cases hm : m < (listB n B).length
    · have := ((mem_listB n B _).1 (sel_mem (listB_sorted n B) hm).1).1
      omega
    · omega
theorem sel_pos (n B : Nat) (k : Int) (h : ¬ selectL (listB n B) k < 0) : (rankL (listB n B) (selectL (listB n B) k) : Int) = k ∧ selectL (listB n B) k ∈ listB n B := by
  by_cases hk : k < 0
  · exact absurd (show selectL (listB n B) k < 0 by rw [selectL, if_pos hk]; decide) h
  · obtain ⟨m, rfl⟩ : ∃ m : Nat, k = m := ⟨k.toNat, by omega⟩
    by_cases hm : m < (listB n B).length
    · have := sel_mem (listB_sorted n B) hm
      exact ⟨by rw [this.2], this.1⟩
    · refine absurd (show selectL (listB n B) m < 0 by rw [selectL, if_neg hk, Int.toNat_natCast, List.getD_eq_getElem?_getD, List.getElem?_eq_none (by omega)]; decide) h

set_option maxRecDepth 100000 in
set_option maxHeartbeats 4000000 in
theorem inverse_walk (b : Nat) (a : Option Addr) (cap : Nat) (l : List Act3) (k : Int) (w : World) (hb : b < 256) (hA : AC w a l) (hl : l.length ≤ 140737488351232) (hT : Tb w) (hk : k ≤ 9223372036854775807) :
    Calls Tryd.prog 8 #[.int .u8 b, .slice a l.length cap, .int .i64 k] w fun e w' => e = .returned (.bool true) ∧ Nw w w' := by
  have HT := Lib.hid hT
  have HA := Lib.hid hA
  have HL := Lib.hid (fun W h => lay_calls b a cap l W hb h hl)
  have hn5 : b % 5 < 5 := Nat.mod_lt _ (by decide)
  obtain ⟨n, hn⟩ : ∃ n, n = b % 5 := ⟨_, rfl⟩
  obtain ⟨B, hB⟩ : ∃ B, B = layN (b % 5) (l.take 25) := ⟨_, rfl⟩
  rw [← hB] at HL
  rw [← hn] at HL hn5
  clear hT hA hn hB
  go_enter Tryd.func8, Tryd.ntmps8
  go_wp2_with (first | (go_at_call 10; refine (awake_calls w HT.out).mono ?_; rintro e w1 ⟨rfl, hN1⟩; have HN1 := Lib.hid hN1) | (go_at_call 11; refine (HL.out _ (HA.out.nw HN1.out)).mono ?_; rintro e w2 ⟨p, q, A, c, rfl, hp, hq, hS, hR, hN⟩; have HN2 := Lib.hid (HN1.out.trans hN); have HS2 := Lib.hid hS; have HR2 := Lib.hid hR; clear hN hS hR))
  have hbx := blk_new w2 (.cells #[.int .i64 n, .slice A (listB n B).length c] 27)
  have hN3 := HN2.out.alloc (.cells #[.int .i64 n, .slice A (listB n B).length c] 27)
  have hS3 : St (w2.alloc (.cells #[.int .i64 n, .slice A (listB n B).length c] 27)) p q n B := HS2.out.nw ((Fr.refl (fun _ => False) _).alloc _) (fun h => h) (fun h => h)
  have hR3 : Kd.C (Kd.int .i64) (w2.alloc (.cells #[.int .i64 n, .slice A (listB n B).length c] 27)) A (listB n B).length (listB n B) := by
    obtain ⟨A', c', he, _, hC⟩ := Kd.R_reads HR2.out
    cases he
    exact Kd.C_below hC ((Below.refl _ _).alloc (Nat.le_refl _) _)
  have hx0 : (w2.alloc (.cells #[.int .i64 n, .slice A (listB n B).length c] 27)).cell? ⟨w2.heap.size, 0, none⟩ = some (.int .i64 n) := blk_cell hbx 0
  have hx1 : (w2.alloc (.cells #[.int .i64 n, .slice A (listB n B).length c] 27)).cell? ⟨w2.heap.size, 1, none⟩ = some (.slice A (listB n B).length c) := blk_cell hbx 1
  have hT3 := HT.out.step hN3
  obtain ⟨w3, hw3⟩ : ∃ w3, w3 = w2.alloc (.cells #[.int .i64 n, .slice A (listB n B).length c] 27) := ⟨_, rfl⟩
  rw [← hw3] at hx0 hx1 hS3 hN3 hR3 hT3 ⊢
  clear hw3 hbx hp hq
  have HS3 := Lib.hid hS3
  have HN3 := Lib.hid hN3
  have HR3 := Lib.hid hR3
  have HT3 := Lib.hid hT3
  obtain ⟨L, hL⟩ : ∃ L, L = (listB n B).length := ⟨_, rfl⟩
  rw [← hL] at hx1 ⊢
  have K0 := Lib.hid (sselect_calls p q n B k w3 hS3 hk)
  by_cases hs : selectL (listB n B) k < 0
  · have hneg := sel_neg n B k hs
    rw [← hL] at hneg
    obtain ⟨s, hse⟩ : ∃ s, s = selectL (listB n B) k := ⟨_, rfl⟩
    rw [← hse] at K0 hs
    clear hse hL hR3 hS3 hT3 hN3
    by_cases hk0 : k < 0
    · go_wp2_with (go_at_call 39; refine K0.out.mono ?_; rintro e w4 ⟨rfl, hF⟩; have hx1' := hF.cell hx1 (fun h => h); have HF := Lib.hid (HN3.out.trans hF); clear hF)
      go_ret
      exact ⟨rfl, HF.out⟩
    · have hk1 : (L : Int) ≤ k := by omega
      go_wp2_with (go_at_call 39; refine K0.out.mono ?_; rintro e w4 ⟨rfl, hF⟩; have hx1' := hF.cell hx1 (fun h => h); have HF := Lib.hid (HN3.out.trans hF); clear hF)
      go_ret
      exact ⟨rfl, HF.out⟩
  · obtain ⟨h1, h2⟩ := sel_pos n B k hs
    obtain ⟨s, hse⟩ : ∃ s, s = selectL (listB n B) k := ⟨_, rfl⟩
    rw [← hse] at K0 hs h1 h2
    have K1 := Lib.hid (fun W h => srank_calls (some ⟨p, 0, none⟩) q n B s W h)
    have K2 := Lib.hid (fun W h => sget_calls (some ⟨p, 0, none⟩) q n B s W h)
    have K3 := Lib.hid (fun W h hT => snext_calls (some ⟨p, 0, none⟩) q n B s W h hT)
    have K4 := Lib.hid (fun W h => sprev_calls p q n B s W h)
    rw [rank_toN, h1] at K1
    rw [get_has, show hasL (listB n B) s = true from decide_eq_true h2] at K2
    rw [next_self (listB_sorted n B) h2] at K3
    rw [prev_self (listB_sorted n B) h2] at K4
    clear hse hL hR3 hS3 hT3 hN3 h1 h2
    go_wp2_with (first
      | (go_at_call 39; refine K0.out.mono ?_; rintro e w4 ⟨rfl, hF⟩; have hx1' := hF.cell hx1 (fun h => h); have HS4 := Lib.hid (HS3.out.nw hF (fun h => h) (fun h => h)); have HN4 := Lib.hid (HN3.out.trans hF); clear hF)
      | (go_at_call 13; refine (K1.out _ (.inl ⟨p, rfl, HS4.out⟩)).mono ?_; rintro e w5 ⟨rfl, hF⟩; have HS5 := Lib.hid (HS4.out.nw hF (fun h => h) (fun h => h)); have HN5 := Lib.hid (HN4.out.trans hF); clear hF)
      | (go_at_call 32; refine (K2.out _ (.inl ⟨p, rfl, HS5.out⟩)).mono ?_; rintro e w6 ⟨rfl, rfl⟩)
      | (go_at_call 34; refine (K3.out _ (.inl ⟨p, rfl, HS5.out⟩) (HT.out.step HN5.out)).mono ?_; rintro e w6 ⟨rfl, hF⟩; have HS6 := Lib.hid (HS5.out.nw hF (fun h => h) (fun h => h)); have HN6 := Lib.hid (HN5.out.trans hF); clear hF)
      | (go_at_call 36; refine (K4.out _ HS6.out).mono ?_; rintro e w7 ⟨rfl, hF⟩; have HN7 := Lib.hid (HN6.out.trans hF); clear hF))
    go_ret
    exact ⟨rfl, HN7.out⟩

/-- For the row. -/
theorem inverse_row (x : Int) (a : Option Addr) (cap : Nat) (l : List Act3) (k : Int) (w : World) (hx : (Lit.int .u8 x).wf = true) (hkw : (Lit.int .i64 k).wf = true) (hA : AC w a l) (hl : l.length ≤ 140737488351232) (hT : Tb w) :
    Calls Tryd.prog 8 #[.int .u8 x, .slice a l.length cap, .int .i64 k] w fun e w' => e = .returned (.bool true) ∧ Nw w w' := by
  have h := u8_bd hx
  obtain ⟨b, rfl⟩ : ∃ b : Nat, x = b := ⟨x.toNat, by omega⟩
  exact inverse_walk b a cap l k w (by omega) hA hl hT (i64_bd hkw).2

end Go.Proofs.YtacaeahijecfeaaDoor
