/-
  StripRanges: the law's walk. (Ranks of a range's ends; wiping and filling it on a copy.)
-/
import Derived.Test.YtacaeahijecfeaaDoorStripAwake
import Derived.Test.YtacaeahijecfeaaDoorStripRow
namespace Go.Proofs.YtacaeahijecfeaaDoor
open Go.RowKit Go.Shelf Go.Proofs.YtacaeahijecfeaaDoorW.PrintWords Go.Proofs.YtacaeahijecfeaaDoorW.PrintMore
set_option linter.unusedVariables false
set_option linter.unusedSimpArgs false

/-! ### the plain part -/
theorem seg_same (B C a b : Nat) (h : ∀ j, a ≤ j → j < b → B.testBit j = C.testBit j) : segN B a b = segN C a b := by
  rw [segN, segN]
  apply bits_len_eq
  intro k hk
  exact h _ (by omega) (by omega)
theorem seg_empty (B a b : Nat) (h : ∀ j, a ≤ j → j < b → B.testBit j = false) : segN B a b = 0 := by
  rw [segN, bits_nil B (b - a) a (fun k hk => h _ (by omega) (by omega))]; rfl
theorem seg_full (B a b : Nat) (h : ∀ j, a ≤ j → j < b → B.testBit j = true) : segN B a b = b - a := by
  have := bits_not B 0 (b - a) a 0 (fun k hk => by rw [h _ (by omega) (by omega), Nat.zero_testBit]; rfl)
  rw [bits_nil 0 (b - a) 0 (fun k hk => Nat.zero_testBit _)] at this
  simpa [segN] using this
theorem ranges_plain (B f t D : Nat) (h1 : f ≤ t) (h2 : t ≤ D) : segN B 0 f + segN B f t = segN B 0 t ∧ segN (wipeN B f t) 0 D + segN B f t = segN B 0 D ∧ segN (wipeN B f t) f t = 0 ∧
    segN (fillN (wipeN B f t) f t) 0 D = segN (wipeN B f t) 0 D + (t - f) := by
  have a1 := seg_add B 0 f t (by omega) h1
  have a2 := seg_add B 0 t D (by omega) h2
  have b1 := seg_add (wipeN B f t) 0 f t (by omega) h1
  have b2 := seg_add (wipeN B f t) 0 t D (by omega) h2
  have c1 := seg_add (fillN (wipeN B f t) f t) 0 f t (by omega) h1
  have c2 := seg_add (fillN (wipeN B f t) f t) 0 t D (by omega) h2
  have d1 : segN (wipeN B f t) 0 f = segN B 0 f := seg_same _ _ _ _ (fun j h3 h4 => by rw [tb_wipe, decide_eq_false (by omega)]; simp)
  have d2 : segN (wipeN B f t) t D = segN B t D := seg_same _ _ _ _ (fun j h3 h4 => by rw [tb_wipe, decide_eq_false (by omega)]; simp)
  have d3 : segN (wipeN B f t) f t = 0 := seg_empty _ _ _ (fun j h3 h4 => by rw [tb_wipe, decide_eq_true (by omega)]; simp)
  have d4 : segN (fillN (wipeN B f t) f t) 0 f = segN (wipeN B f t) 0 f := seg_same _ _ _ _ (fun j h3 h4 => by rw [tb_fill, decide_eq_false (by omega)]; simp)
  have d5 : segN (fillN (wipeN B f t) f t) t D = segN (wipeN B f t) t D := seg_same _ _ _ _ (fun j h3 h4 => by rw [tb_fill, decide_eq_false (by omega)]; simp)
  have d6 : segN (fillN (wipeN B f t) f t) f t = t - f := seg_full _ _ _ (fun j h3 h4 => by rw [tb_fill, decide_eq_true (by omega)]; simp)
  omega

/-- What turned is newer than the strip. -/
theorem SP.off {w0 W W1 : World} {p q n B q' : Nat} (h0 : SP w0 (some ⟨p, 0, none⟩) q n B) (h : SP W (some ⟨p, 0, none⟩) q n B) (hF : Fr (One q') W W1) (hq : w0.heap.size ≤ q') : SP W1 (some ⟨p, 0, none⟩) q n B := by
  have h1 := h0.st.plt
  have h2 := h0.st.qlt
  refine .inl ⟨p, rfl, h.st.nw hF (fun h => ?_) (fun h => ?_)⟩
  · have : p = q' := h
    omega
  · have : q = q' := h
    omega

set_option maxRecDepth 100000 in
set_option maxHeartbeats 4000000 in
theorem ranges_walk (b : Nat) (a : Option Addr) (cap : Nat) (l : List Act3) (i j : Int) (w : World) (hb : b < 256) (hA : AC w a l) (hl : l.length ≤ 140737488351232) (hT : Tb w) :
    Calls Tryd.prog 3 #[.int .u8 b, .slice a l.length cap, .int .i64 i, .int .i64 j] w fun e w' => e = .returned (.bool true) ∧ Nw w w' := by
  have HT := Lib.hid hT
  have HA := Lib.hid hA
  have HL := Lib.hid (fun W h => lay_calls b a cap l W hb h hl)
  have hn5 : b % 5 < 5 := Nat.mod_lt _ (by decide)
  obtain ⟨n, hn⟩ : ∃ n, n = b % 5 := ⟨_, rfl⟩
  obtain ⟨B, hB⟩ : ∃ B, B = layN (b % 5) (l.take 25) := ⟨_, rfl⟩
  rw [← hB] at HL
  rw [← hn] at HL hn5
  clear hT hA hn hB
  have E1 := Lib.hid (fun W => clamp_calls i (64 * n) W)
  have E2 := Lib.hid (fun W => clamp_calls j (64 * n) W)
  obtain ⟨f, hf⟩ : ∃ f : Nat, clampL i (64 * n) = f := ⟨(clampL i (64 * n)).toNat, by unfold clampL; omega⟩
  obtain ⟨t, ht⟩ : ∃ t : Nat, clampL j (64 * n) = t := ⟨(clampL j (64 * n)).toNat, by unfold clampL; omega⟩
  have hf2 : f ≤ 64 * n := by unfold clampL at hf; omega
  have ht2 : t ≤ 64 * n := by unfold clampL at ht; omega
  rw [hf] at E1
  rw [ht] at E2
  clear hf ht
  go_enter Tryd.func3, Tryd.ntmps3
  go_wp2_with (first | (go_at_call 10; refine (awake_calls w HT.out).mono ?_; rintro e w1 ⟨rfl, hN1⟩; have HN1 := Lib.hid hN1) | (go_at_call 11; refine (HL.out _ (HA.out.nw HN1.out)).mono ?_; rintro e w2 ⟨p, q, A, c, rfl, hp, hq, hS, hR, hN⟩; have HN2 := Lib.hid (HN1.out.trans hN); have HS2 := Lib.hid hS; clear hN hS hR))
  have hbx := blk_new w2 (.cells #[.int .i64 n, .slice A (listB n B).length c] 27)
  have hN3 := HN2.out.alloc (.cells #[.int .i64 n, .slice A (listB n B).length c] 27)
  have hS3 : SP (w2.alloc (.cells #[.int .i64 n, .slice A (listB n B).length c] 27)) (some ⟨p, 0, none⟩) q n B := SP.nw (.inl ⟨p, rfl, HS2.out⟩) ((Fr.refl _ _).alloc _)
  have hx0 : (w2.alloc (.cells #[.int .i64 n, .slice A (listB n B).length c] 27)).cell? ⟨w2.heap.size, 0, none⟩ = some (.int .i64 n) := blk_cell hbx 0
  obtain ⟨w3, hw3⟩ : ∃ w3, w3 = w2.alloc (.cells #[.int .i64 n, .slice A (listB n B).length c] 27) := ⟨_, rfl⟩
  rw [← hw3] at hx0 hS3 hN3 ⊢
  have hwp : w.heap.size ≤ p := Nat.le_trans HN1.out.size hp
  have hwq : w.heap.size ≤ q := Nat.le_trans HN1.out.size hq
  clear hw3 hbx hp hq
  have hs : IntKind.i64.wrap (64 * (n : Int)) = 64 * (n : Int) := IntWalk.i64_in _ (by omega)
  refine wp_still 10 (by kernel_rfl) (by kernel_rfl) ?_
  simp only [List.take_succ_cons, List.take_zero, List.drop_succ_cons, List.drop_zero]
  repeat still_step
  still_call (Calls.mono (E1.out _) (fun _ _ h => ⟨h.1, h.2.symm⟩))
  repeat still_step
  still_call (Calls.mono (E2.out _) (fun _ _ h => ⟨h.1, h.2.symm⟩))
  repeat still_step
  refine wpStill_nil ?_
  have HS3 := Lib.hid (hS3.nw (Fr.refl _ _).drew)
  have HN3 := Lib.hid hN3.drew
  clear hs hS3 hN3 hx0
  by_cases hft : t < f
  · have hft' : (t : Int) < f := by omega
    obtain ⟨r1, r2, r3, r4⟩ := ranges_plain B t f (64 * n) (by omega) (by omega)
    have ef : fromN (t : Nat) = t := by unfold fromN; omega
    have et : toN (f : Nat) (64 * n) = f := by unfold toN; omega
    have ef2 : toN (t : Nat) (64 * n) = t := by unfold toN; omega
    have hle := seg_le B 0 (64 * n)
    have K1 := Lib.hid (fun (W : World) (h : SP W (some ⟨p, 0, none⟩) q n B) => srank_calls (some ⟨p, 0, none⟩) q n B (f : Nat) W h)
    have K2 := Lib.hid (fun (W : World) (h : SP W (some ⟨p, 0, none⟩) q n B) => srank_calls (some ⟨p, 0, none⟩) q n B (t : Nat) W h)
    have K3 := Lib.hid (fun (W : World) (h : SP W (some ⟨p, 0, none⟩) q n B) => scount_calls (some ⟨p, 0, none⟩) q n B W h)
    have K4 := Lib.hid (fun (p q : Nat) (W : World) (h : SP W (some ⟨p, 0, none⟩) q n B) => wipe_calls (some ⟨p, 0, none⟩) q n B (t : Nat) (f : Nat) W h)
    have K5 := Lib.hid (fun (p q : Nat) (W : World) (h : SP W (some ⟨p, 0, none⟩) q n (wipeN B t f)) => scount_calls (some ⟨p, 0, none⟩) q n (wipeN B t f) W h)
    have K6 := Lib.hid (fun (p q : Nat) (W : World) (h : SP W (some ⟨p, 0, none⟩) q n (wipeN B t f)) => fill_calls (some ⟨p, 0, none⟩) q n (wipeN B t f) (t : Nat) (f : Nat) W h)
    have K7 := Lib.hid (fun (p q : Nat) (W : World) (h : SP W (some ⟨p, 0, none⟩) q n (fillN (wipeN B t f) t f)) => scount_calls (some ⟨p, 0, none⟩) q n (fillN (wipeN B t f) t f) W h)
    rw [et] at K1
    rw [ef2] at K2
    rw [ef, et] at K4
    rw [ef, et, r3, Nat.sub_zero] at K6
    obtain ⟨Bw, hBw⟩ : ∃ x, x = wipeN B t f := ⟨_, rfl⟩
    rw [← hBw] at r2 r4 K4 K5 K6 K7
    obtain ⟨Bf, hBf⟩ : ∃ x, x = fillN Bw t f := ⟨_, rfl⟩
    rw [← hBf] at r4 K6 K7
    obtain ⟨c1, hc1⟩ : ∃ x, x = segN B 0 f := ⟨_, rfl⟩
    obtain ⟨c2, hc2⟩ : ∃ x, x = segN B 0 t := ⟨_, rfl⟩
    obtain ⟨c3, hc3⟩ : ∃ x, x = segN B 0 (64 * n) := ⟨_, rfl⟩
    obtain ⟨c4, hc4⟩ : ∃ x, x = segN B t f := ⟨_, rfl⟩
    obtain ⟨c5, hc5⟩ : ∃ x, x = segN Bw 0 (64 * n) := ⟨_, rfl⟩
    obtain ⟨c6, hc6⟩ : ∃ x, x = segN Bf 0 (64 * n) := ⟨_, rfl⟩
    rw [← hc1] at K1 r1
    rw [← hc2] at K2 r1
    rw [← hc3] at K3 r2 hle
    rw [← hc4] at K4 r1 r2
    rw [← hc5] at K5 r2 r4
    rw [← hc6] at K7 r4
    clear hBw hBf hc1 hc2 hc3 hc4 hc5 hc6 r3 ef et ef2
    have hc : (((f - t : Nat) : Nat) : Int) = (f : Int) - (t : Int) := by omega
    rw [hc] at K6
    have hq1 : (c1 : Int) - c2 = c4 := by omega
    have hq2 : (c3 : Int) - c4 = c5 := by omega
    have hq3 : (c5 : Int) + f - t = c6 := by omega
    go_wp2_with (first
      | (go_at_call 13; (with_reducible refine Calls.mono (K1.out _ HS3.out) ?_); rintro e w4 ⟨rfl, hF⟩; have HS4 := Lib.hid (HS3.out.nw hF); have HN4 := Lib.hid (HN3.out.trans hF); clear hF)
      | (go_at_call 13; (with_reducible refine Calls.mono (K2.out _ HS4.out) ?_); rintro e w5 ⟨rfl, hF⟩; have HS5 := Lib.hid (HS4.out.nw hF); have HN5 := Lib.hid (HN4.out.trans hF); clear hF)
      | (go_at_call 14; (with_reducible refine Calls.mono (scopy_calls p q n B _ HS5.out.st) ?_); rintro e w6 ⟨p', q', rfl, hp', hq', hS', hF⟩; have hqw := HS5.out.st.qlt; have HS6 := Lib.hid (HS5.out.nw hF); have HC6 : Hid (SP w6 (some ⟨p', 0, none⟩) q' n B) := Lib.hid (.inl ⟨p', rfl, hS'⟩); have hs5 := HN5.out.size; have HN6 := Lib.hid (HN5.out.trans hF); clear hF hS')
      | (go_at_call 15; (with_reducible refine Calls.mono (K3.out _ HS6.out) ?_); rintro e w7 ⟨rfl, hF⟩; have HS7 := Lib.hid (HS6.out.nw hF); have HC7 := Lib.hid (HC6.out.nw hF); have HN7 := Lib.hid (HN6.out.trans hF); clear hF)
      | (go_at_call 16; (with_reducible refine Calls.mono (K4.out _ _ _ HC7.out) ?_); rintro e w8 ⟨rfl, hC, hF⟩; have HS8 := Lib.hid (HS5.out.off HS7.out hF hq'); have HC8 := Lib.hid hC; have HN8 := Lib.hid (HN7.out.trans_of hF (fun y hy h => by have : y = q' := h; omega)); clear hC hF)
      | (go_at_call 15; (with_reducible refine Calls.mono (K5.out _ _ _ HC8.out) ?_); rintro e w9 ⟨rfl, hF⟩; have HS9 := Lib.hid (HS8.out.nw hF); have HC9 := Lib.hid (HC8.out.nw hF); have HN9 := Lib.hid (HN8.out.trans hF); clear hF)
      | (go_at_call 17; (with_reducible refine Calls.mono (K6.out _ _ _ HC9.out) ?_); rintro e w10 ⟨rfl, hC, hF⟩; have HS10 := Lib.hid (HS5.out.off HS9.out hF hq'); have HC10 := Lib.hid hC; have HN10 := Lib.hid (HN9.out.trans_of hF (fun y hy h => by have : y = q' := h; omega)); clear hC hF)
      | (go_at_call 15; (with_reducible refine Calls.mono (K7.out _ _ _ HC10.out) ?_); rintro e w11 ⟨rfl, hF⟩; have HS11 := Lib.hid (HS10.out.nw hF); have HN11 := Lib.hid (HN10.out.trans hF); clear hF)
      | (go_at_call 15; (with_reducible refine Calls.mono (K3.out _ HS11.out) ?_); rintro e w12 ⟨rfl, hF⟩; have HN12 := Lib.hid (HN11.out.trans hF); clear hF))
    go_ret
    exact ⟨rfl, HN12.out⟩
  · have hft' : ¬ (t : Int) < f := by omega
    obtain ⟨r1, r2, r3, r4⟩ := ranges_plain B f t (64 * n) (by omega) (by omega)
    have ef : fromN (f : Nat) = f := by unfold fromN; omega
    have et : toN (t : Nat) (64 * n) = t := by unfold toN; omega
    have ef2 : toN (f : Nat) (64 * n) = f := by unfold toN; omega
    have hle := seg_le B 0 (64 * n)
    have K1 := Lib.hid (fun (W : World) (h : SP W (some ⟨p, 0, none⟩) q n B) => srank_calls (some ⟨p, 0, none⟩) q n B (t : Nat) W h)
    have K2 := Lib.hid (fun (W : World) (h : SP W (some ⟨p, 0, none⟩) q n B) => srank_calls (some ⟨p, 0, none⟩) q n B (f : Nat) W h)
    have K3 := Lib.hid (fun (W : World) (h : SP W (some ⟨p, 0, none⟩) q n B) => scount_calls (some ⟨p, 0, none⟩) q n B W h)
    have K4 := Lib.hid (fun (p q : Nat) (W : World) (h : SP W (some ⟨p, 0, none⟩) q n B) => wipe_calls (some ⟨p, 0, none⟩) q n B (f : Nat) (t : Nat) W h)
    have K5 := Lib.hid (fun (p q : Nat) (W : World) (h : SP W (some ⟨p, 0, none⟩) q n (wipeN B f t)) => scount_calls (some ⟨p, 0, none⟩) q n (wipeN B f t) W h)
    have K6 := Lib.hid (fun (p q : Nat) (W : World) (h : SP W (some ⟨p, 0, none⟩) q n (wipeN B f t)) => fill_calls (some ⟨p, 0, none⟩) q n (wipeN B f t) (f : Nat) (t : Nat) W h)
    have K7 := Lib.hid (fun (p q : Nat) (W : World) (h : SP W (some ⟨p, 0, none⟩) q n (fillN (wipeN B f t) f t)) => scount_calls (some ⟨p, 0, none⟩) q n (fillN (wipeN B f t) f t) W h)
    rw [et] at K1
    rw [ef2] at K2
    rw [ef, et] at K4
    rw [ef, et, r3, Nat.sub_zero] at K6
    obtain ⟨Bw, hBw⟩ : ∃ x, x = wipeN B f t := ⟨_, rfl⟩
    rw [← hBw] at r2 r4 K4 K5 K6 K7
    obtain ⟨Bf, hBf⟩ : ∃ x, x = fillN Bw f t := ⟨_, rfl⟩
    rw [← hBf] at r4 K6 K7
    obtain ⟨c1, hc1⟩ : ∃ x, x = segN B 0 t := ⟨_, rfl⟩
    obtain ⟨c2, hc2⟩ : ∃ x, x = segN B 0 f := ⟨_, rfl⟩
    obtain ⟨c3, hc3⟩ : ∃ x, x = segN B 0 (64 * n) := ⟨_, rfl⟩
    obtain ⟨c4, hc4⟩ : ∃ x, x = segN B f t := ⟨_, rfl⟩
    obtain ⟨c5, hc5⟩ : ∃ x, x = segN Bw 0 (64 * n) := ⟨_, rfl⟩
    obtain ⟨c6, hc6⟩ : ∃ x, x = segN Bf 0 (64 * n) := ⟨_, rfl⟩
    rw [← hc1] at K1 r1
    rw [← hc2] at K2 r1
    rw [← hc3] at K3 r2 hle
    rw [← hc4] at K4 r1 r2
    rw [← hc5] at K5 r2 r4
    rw [← hc6] at K7 r4
    clear hBw hBf hc1 hc2 hc3 hc4 hc5 hc6 r3 ef et ef2
    have hc : (((t - f : Nat) : Nat) : Int) = (t : Int) - (f : Int) := by omega
    rw [hc] at K6
    have hq1 : (c1 : Int) - c2 = c4 := by omega
    have hq2 : (c3 : Int) - c4 = c5 := by omega
    have hq3 : (c5 : Int) + t - f = c6 := by omega
    go_wp2_with (first
      | (go_at_call 13; (with_reducible refine Calls.mono (K1.out _ HS3.out) ?_); rintro e w4 ⟨rfl, hF⟩; have HS4 := Lib.hid (HS3.out.nw hF); have HN4 := Lib.hid (HN3.out.trans hF); clear hF)
      | (go_at_call 13; (with_reducible refine Calls.mono (K2.out _ HS4.out) ?_); rintro e w5 ⟨rfl, hF⟩; have HS5 := Lib.hid (HS4.out.nw hF); have HN5 := Lib.hid (HN4.out.trans hF); clear hF)
      | (go_at_call 14; (with_reducible refine Calls.mono (scopy_calls p q n B _ HS5.out.st) ?_); rintro e w6 ⟨p', q', rfl, hp', hq', hS', hF⟩; have hqw := HS5.out.st.qlt; have HS6 := Lib.hid (HS5.out.nw hF); have HC6 : Hid (SP w6 (some ⟨p', 0, none⟩) q' n B) := Lib.hid (.inl ⟨p', rfl, hS'⟩); have hs5 := HN5.out.size; have HN6 := Lib.hid (HN5.out.trans hF); clear hF hS')
      | (go_at_call 15; (with_reducible refine Calls.mono (K3.out _ HS6.out) ?_); rintro e w7 ⟨rfl, hF⟩; have HS7 := Lib.hid (HS6.out.nw hF); have HC7 := Lib.hid (HC6.out.nw hF); have HN7 := Lib.hid (HN6.out.trans hF); clear hF)
      | (go_at_call 16; (with_reducible refine Calls.mono (K4.out _ _ _ HC7.out) ?_); rintro e w8 ⟨rfl, hC, hF⟩; have HS8 := Lib.hid (HS5.out.off HS7.out hF hq'); have HC8 := Lib.hid hC; have HN8 := Lib.hid (HN7.out.trans_of hF (fun y hy h => by have : y = q' := h; omega)); clear hC hF)
      | (go_at_call 15; (with_reducible refine Calls.mono (K5.out _ _ _ HC8.out) ?_); rintro e w9 ⟨rfl, hF⟩; have HS9 := Lib.hid (HS8.out.nw hF); have HC9 := Lib.hid (HC8.out.nw hF); have HN9 := Lib.hid (HN8.out.trans hF); clear hF)
      | (go_at_call 17; (with_reducible refine Calls.mono (K6.out _ _ _ HC9.out) ?_); rintro e w10 ⟨rfl, hC, hF⟩; have HS10 := Lib.hid (HS5.out.off HS9.out hF hq'); have HC10 := Lib.hid hC; have HN10 := Lib.hid (HN9.out.trans_of hF (fun y hy h => by have : y = q' := h; omega)); clear hC hF)
      | (go_at_call 15; (with_reducible refine Calls.mono (K7.out _ _ _ HC10.out) ?_); rintro e w11 ⟨rfl, hF⟩; have HS11 := Lib.hid (HS10.out.nw hF); have HN11 := Lib.hid (HN10.out.trans hF); clear hF)
      | (go_at_call 15; (with_reducible refine Calls.mono (K3.out _ HS11.out) ?_); rintro e w12 ⟨rfl, hF⟩; have HN12 := Lib.hid (HN11.out.trans hF); clear hF))
    go_ret
    exact ⟨rfl, HN12.out⟩

/-- For the row. -/
theorem ranges_row (x : Int) (a : Option Addr) (cap : Nat) (l : List Act3) (i j : Int) (w : World) (hx : (Lit.int .u8 x).wf = true) (hA : AC w a l) (hl : l.length ≤ 140737488351232) (hT : Tb w) :
    Calls Tryd.prog 3 #[.int .u8 x, .slice a l.length cap, .int .i64 i, .int .i64 j] w fun e w' => e = .returned (.bool true) ∧ Nw w w' := by
  have h := u8_bd hx
  obtain ⟨b, rfl⟩ : ∃ b : Nat, x = b := ⟨x.toNat, by omega⟩
  exact ranges_walk b a cap l i j w (by omega) hA hl hT

end Go.Proofs.YtacaeahijecfeaaDoor
