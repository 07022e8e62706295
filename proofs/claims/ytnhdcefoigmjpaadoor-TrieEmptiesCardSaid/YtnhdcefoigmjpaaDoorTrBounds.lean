/-
  The contract of a trie's bounds.
-/
import Derived.Test.YtnhdcefoigmjpaaDoorTrDel

namespace Go.Proofs.YtnhdcefoigmjpaaDoor
open Go.RowKit Go.Proofs.YtnhdcefoigmjpaaDoorW.PrintWords Go.Proofs.YtnhdcefoigmjpaaDoorW.PrintMore
attribute [local go_sem] max2_int min2_int max_two min_two
set_option linter.unusedVariables false
set_option linter.unusedSimpArgs false

theorem ends_ten {l : List Nat} (h : Up l) (p : Nat) (hne : cls l 10 p ≠ []) : ∃ a b : Nat, a < 64 ∧ b < 64 ∧ lowN (bitsC l 10 p) = (a : Nat) ∧ highN (bitsC l 10 p) = (b : Nat) ∧ (cls l 10 p).headD 0 = p * 64 + a ∧ (cls l 10 p).getLastD 0 = p * 64 + b := by
  obtain ⟨x, hx, _, e1, e2⟩ := head_kid (fun _ _ => 0) h 10 p (Nat.le_refl _) hne
  obtain ⟨y, hy, _, f1, f2⟩ := last_kid (fun _ _ => 0) h 10 p (Nat.le_refl _) hne
  obtain ⟨hx1, hx2⟩ := (mem_cls l 10 p x).1 hx
  obtain ⟨hy1, hy2⟩ := (mem_cls l 10 p y).1 hy
  refine ⟨dig 10 x, dig 10 y, dig_lt _ _, dig_lt _ _, e2, f2, ?_, ?_⟩
  · rw [e1, show (10 : Nat) + 1 = 11 from rfl, pre_key, cls_leaf h hx1]
    have := key_ten x; rw [hx2] at this; exact this
  · rw [f1, show (10 : Nat) + 1 = 11 from rfl, pre_key, cls_leaf h hy1]
    have := key_ten y; rw [hy2] at this; exact this

set_option maxRecDepth 100000 in
set_option maxHeartbeats 2000000 in
theorem tbounds_ten (t : Nat) (x : Nd) (k a b : Nat) (bs : Int) (w : World) (hbs : bs = bits .andNot .u64 (k : Int) 63) (hk : k < 18446744073709551616) (hT : Tb w) (hxb : x.b < 18446744073709551616) (ha : a < 64) (hb : b < 64) (hlo : lowN x.b = (a : Nat)) (hhi : highN x.b = (b : Nat)) :
    Calls Tryd.prog 63 #[.pointer (some ⟨t, 0, none⟩), (Value.agg #[Value.int IntKind.u64 (Nd.b x), Value.slice (Nd.ka x) (Nd.kn x) (Nd.kc x), Value.int IntKind.i64 (Nd.n x), Value.int IntKind.u64 (Nd.lo x), Value.int IntKind.u64 (Nd.hi x)]), .int .i64 10, .int .u64 bs] w fun e w' => e = .returned (Value.agg #[Value.int IntKind.u64 (Nd.b (⟨x.b, x.ka, x.kn, x.kc, x.n, pre 10 k * 64 + a, pre 10 k * 64 + b⟩ : Nd)), Value.slice (Nd.ka (⟨x.b, x.ka, x.kn, x.kc, x.n, pre 10 k * 64 + a, pre 10 k * 64 + b⟩ : Nd)) (Nd.kn (⟨x.b, x.ka, x.kn, x.kc, x.n, pre 10 k * 64 + a, pre 10 k * 64 + b⟩ : Nd)) (Nd.kc (⟨x.b, x.ka, x.kn, x.kc, x.n, pre 10 k * 64 + a, pre 10 k * 64 + b⟩ : Nd)), Value.int IntKind.i64 (Nd.n (⟨x.b, x.ka, x.kn, x.kc, x.n, pre 10 k * 64 + a, pre 10 k * 64 + b⟩ : Nd)), Value.int IntKind.u64 (Nd.lo (⟨x.b, x.ka, x.kn, x.kc, x.n, pre 10 k * 64 + a, pre 10 k * 64 + b⟩ : Nd)), Value.int IntKind.u64 (Nd.hi (⟨x.b, x.ka, x.kn, x.kc, x.n, pre 10 k * 64 + a, pre 10 k * 64 + b⟩ : Nd))]) ∧ Nw w w' := by
  have J1 := join_ten k a hk ha
  have J2 := join_ten k b hk hb
  rw [← hbs] at J1 J2
  have HL := Lib.hid (fun w' (h : Nw w w') => show Calls Tryd.prog 75 #[.int .u64 x.b] w' (fun e w'' => e = .returned (.int .i64 (a : Nat)) ∧ w' = w'') from by have := low_calls x.b w' hxb (Tb.fr hT h (fun h => h)); rw [hlo] at this; exact this)
  have HH := Lib.hid (fun w' => show Calls Tryd.prog 77 #[.int .u64 x.b] w' (fun e w'' => e = .returned (.int .i64 (b : Nat)) ∧ w' = w'') from by have := high_calls x.b w' hxb; rw [hhi] at this; exact this)
  have WA := u64w a (by omega)
  have WB := u64w b (by omega)
  have J1 := Lib.hid J1
  have J2 := Lib.hid J2
  clear hbs hk hT hxb hlo hhi
  go_enter Tryd.func63, Tryd.ntmps63
  go_wp2
  refine wp_still 6 (by kernel_rfl) (by kernel_rfl) ?_
  simp only [List.take_succ_cons, List.take_zero, List.drop_succ_cons, List.drop_zero]
  repeat still_step
  still_call (Calls.mono (HL.out _ (((Fr.refl _ _).alloc _).alloc _).drew) (fun _ _ h => ⟨h.1, h.2.symm⟩))
  repeat still_step
  still_call (Calls.mono (HH.out _) (fun _ _ h => ⟨h.1, h.2.symm⟩))
  repeat still_step
  refine wpStill_nil ?_
  go_wp2
  all_goals refine bodyPost_ret (by simp [results, Tryd.results63, go_sem]; try rfl) rfl ?_
  exact ⟨rfl, (((Fr.refl _ _).alloc _).alloc _).drew⟩
theorem fldlo (b : Int) (kv : Value) (n lo hi : Int) (w : World) : (Instr.field 73 (.agg #[.int .u64 b, kv, .int .i64 n, .int .u64 lo, .int .u64 hi]) 3).run Tryd.prog w = .ok (.int .u64 lo) w := by kernel_rfl
theorem fldhi (b : Int) (kv : Value) (n lo hi : Int) (w : World) : (Instr.field 73 (.agg #[.int .u64 b, kv, .int .i64 n, .int .u64 lo, .int .u64 hi]) 4).run Tryd.prog w = .ok (.int .u64 hi) w := by kernel_rfl
theorem fldn (b : Int) (kv : Value) (n lo hi : Int) (w : World) : (Instr.field 73 (.agg #[.int .u64 b, kv, .int .i64 n, .int .u64 lo, .int .u64 hi]) 2).run Tryd.prog w = .ok (.int .i64 n) w := by kernel_rfl
set_option maxRecDepth 100000 in
set_option maxHeartbeats 2000000 in
theorem tbounds_mid (t m p lim : Nat) (rows : List (Option Nd)) (free : List Nat) (cv fv : Value) (w : World) (c1 : w.cell? ⟨t, 1, none⟩ = some (.pointer (some ⟨p, 0, none⟩))) (h : Pl w p m rows free lim cv fv) (i : Nat) (hi : i < 10) (bs : Int) (hT : Tb w)
    (xb q n' kc xn xlo xhi a b : Nat) (hn64 : n' < 64) (hkc : n' + 1 ≤ kc) (hxb : xb < 18446744073709551616) (ha : w.cell? ⟨q, 0, none⟩ = some (.int .i64 a)) (hb : w.cell? ⟨q, n', none⟩ = some (.int .i64 b)) (y z : Nd) (hy : rows[a]? = some (some y)) (hz : rows[b]? = some (some z)) :
    Calls Tryd.prog 63 #[.pointer (some ⟨t, 0, none⟩), .agg #[.int .u64 xb, .slice (some ⟨q, 0, none⟩) (n' + 1) kc, .int .i64 xn, .int .u64 xlo, .int .u64 xhi], .int .i64 i, .int .u64 bs] w fun e w' => e = .returned (.agg #[.int .u64 xb, .slice (some ⟨q, 0, none⟩) (n' + 1) kc, .int .i64 xn, .int .u64 y.lo, .int .u64 z.hi]) ∧ Nw w w' := by
  have HL := Lib.hid (fun w' (h : Nw w w') => low_calls xb w' hxb (Tb.fr hT h (fun h => h)))
  have HH := Lib.hid (fun w' => high_calls xb w' hxb)
  have HS := Lib.hid (fun w' (hf : Nw w w') j x hx => tsee_calls t m p lim 0 [] (fun _ _ => 0) rows free cv fv w' (hf.cell c1 (fun h => h)) (h.nw hf) j x hx)
  have HY := Lib.hid hy
  have HZ := Lib.hid hz
  have h10 : ((i : Int) == 10) = false := by simp; omega
  have hq : q < w.heap.size := World.block_lt_of_cell? w _ ha
  have ht : t < w.heap.size := World.block_lt_of_cell? w _ c1
  have HA := Lib.hid ha
  have HB := Lib.hid hb
  clear h hT hy hz ha hb c1
  go_enter Tryd.func63, Tryd.ntmps63
  go_wp2
  refine wp_still 6 (by kernel_rfl) (by kernel_rfl) ?_
  simp only [List.take_succ_cons, List.take_zero, List.drop_succ_cons, List.drop_zero]
  repeat still_step
  still_call (Calls.mono (HL.out _ (((Fr.refl _ _).alloc _).alloc _).drew) (fun _ _ h => ⟨h.1, h.2.symm⟩))
  repeat still_step
  still_call (Calls.mono (HH.out _) (fun _ _ h => ⟨h.1, h.2.symm⟩))
  repeat still_step
  refine wpStill_nil ?_
  have ha' : (((w.alloc (.cells #[.int .u64 xb, .slice (some ⟨q, 0, none⟩) (n' + 1) kc, .int .i64 xn, .int .u64 xlo, .int .u64 xhi] 73)).alloc (.cells #[.int .u64 0, .slice none 0 0, .int .i64 0, .int .u64 0, .int .u64 0] 73)).drew).cell? ⟨q, 0, none⟩ = some (.int .i64 a) := ((((Fr.refl (fun _ => False) w).alloc _).alloc _).drew).cell HA.out (fun h => h)
  have fl := fun W => fldlo y.b (.slice y.ka y.kn y.kc) y.n y.lo y.hi W
  have fh := fun W => fldhi z.b (.slice z.ka z.kn z.kc) z.n z.lo z.hi W
  go_wp2_with (first
    | (go_at_call 48; (with_reducible refine Calls.mono (HS.out _ ((((Fr.refl _ _).alloc _).alloc _).drew) a y HY.out) ?_); rintro e w1 ⟨rfl, hf⟩; have hb0 := hf.blk (blk_drew (blk_alloc (blk_new w _) _)) (fun h => h); have hb1 := hf.blk (blk_drew (blk_new2 w _ _)) (fun h => h); clear ha'; have HF1 := Lib.hid ((((Fr.refl (fun _ => False) w).alloc _).alloc _).drew.trans hf); obtain ⟨r0, r1, r2, r3, r4⟩ := nd_cells hb0; have g0 := blk_frozen hb0 0; have g1 := blk_frozen hb0 1; have g2 := blk_frozen hb0 2; have g3 := blk_frozen hb0 3; have g4 := blk_frozen hb0 4; have HB0 := Lib.hid hb0; have HB1 := Lib.hid hb1; have hsz := hf.size; have hbn : w1.cell? ⟨q, n', none⟩ = some (.int .i64 b) := HF1.out.cell HB.out (fun h => h); clear hf hb0 hb1)
    | (go_at_call 48; (with_reducible refine Calls.mono (HS.out _ (HF1.out.setN (Nat.le_refl _) _ _) b z HZ.out) ?_); rintro e w2 ⟨rfl, hf⟩; have hb0 := hf.blk (blk_set HB0.out 3 (.int .u64 y.lo)) (fun h => h); have hb1 := hf.blk (((Fr.refl (One w.heap.size) w1).set (One.self _) 3 (.int .u64 y.lo)).blk HB1.out (by simp only [One]; omega)) (fun h => h); have HF2 := Lib.hid ((HF1.out.setN (Nat.le_refl _) 3 (.int .u64 y.lo)).trans hf); clear r0 r1 r2 r3 r4 g0 g1 g2 g3 g4; obtain ⟨r0, r1, r2, r3, r4⟩ := nd_cells hb0; have g0 := blk_frozen hb0 0; have g1 := blk_frozen hb0 1; have g2 := blk_frozen hb0 2; have g3 := blk_frozen hb0 3; have g4 := blk_frozen hb0 4; have HC0 := Lib.hid hb0; obtain ⟨s0, s1, s2, s3, s4⟩ := nd_cells hb1; have k0 := blk_frozen hb1 0; have k1 := blk_frozen hb1 1; have k2 := blk_frozen hb1 2; have k3 := blk_frozen hb1 3; have k4 := blk_frozen hb1 4; have HC1 := Lib.hid hb1; have hsz2 := hf.size; clear hf hb0 hb1))
  have hb1 := ((Fr.refl (One w.heap.size) w2).set (One.self _) 4 (.int .u64 z.hi)).blk HC1.out (by simp only [One]; omega)
  have hB : ((((((w2.setCell ⟨w.heap.size, 4, none⟩ (.int .u64 z.hi)).setCell ⟨(w.heap.size + 1), 0, none⟩ (.int .u64 xb)).setCell ⟨(w.heap.size + 1), 1, none⟩ (.slice (some ⟨q, 0, none⟩) (n' + 1) kc)).setCell ⟨(w.heap.size + 1), 2, none⟩ (.int .i64 xn)).setCell ⟨(w.heap.size + 1), 3, none⟩ (.int .u64 y.lo)).setCell ⟨(w.heap.size + 1), 4, none⟩ (.int .u64 z.hi)).heap[w.heap.size + 1]? = some (.cells #[.int .u64 xb, .slice (some ⟨q, 0, none⟩) (n' + 1) kc, .int .i64 xn, .int .u64 y.lo, .int .u64 z.hi] 73) := blk_put5 hb1 (⟨xb, some ⟨q, 0, none⟩, n' + 1, kc, xn, y.lo, z.hi⟩ : Nd)
  have HF9 : Hid (Nw w ((((((w2.setCell ⟨w.heap.size, 4, none⟩ (.int .u64 z.hi)).setCell ⟨(w.heap.size + 1), 0, none⟩ (.int .u64 xb)).setCell ⟨(w.heap.size + 1), 1, none⟩ (.slice (some ⟨q, 0, none⟩) (n' + 1) kc)).setCell ⟨(w.heap.size + 1), 2, none⟩ (.int .i64 xn)).setCell ⟨(w.heap.size + 1), 3, none⟩ (.int .u64 y.lo)).setCell ⟨(w.heap.size + 1), 4, none⟩ (.int .u64 z.hi))) := Lib.hid ((HF2.out.setN (Nat.le_refl _) 4 (.int .u64 z.hi)).trans_new (fr_put5 (w2.setCell ⟨w.heap.size, 4, none⟩ (.int .u64 z.hi)) (w.heap.size + 1) (⟨xb, some ⟨q, 0, none⟩, n' + 1, kc, xn, y.lo, z.hi⟩ : Nd)) (Nat.le_succ _))
  generalize ((((((w2.setCell ⟨w.heap.size, 4, none⟩ (.int .u64 z.hi)).setCell ⟨(w.heap.size + 1), 0, none⟩ (.int .u64 xb)).setCell ⟨(w.heap.size + 1), 1, none⟩ (.slice (some ⟨q, 0, none⟩) (n' + 1) kc)).setCell ⟨(w.heap.size + 1), 2, none⟩ (.int .i64 xn)).setCell ⟨(w.heap.size + 1), 3, none⟩ (.int .u64 y.lo)).setCell ⟨(w.heap.size + 1), 4, none⟩ (.int .u64 z.hi)) = W9 at hB HF9 ⊢
  clear s0 s1 s2 s3 s4
  obtain ⟨s0, s1, s2, s3, s4⟩ := nd_cells hB
  refine bodyPost_ret (by simp [results, Tryd.results63, go_sem, s0, s1, s2, s3, s4]; try rfl) rfl ?_
  exact ⟨rfl, HF9.out⟩
end Go.Proofs.YtnhdcefoigmjpaaDoor
