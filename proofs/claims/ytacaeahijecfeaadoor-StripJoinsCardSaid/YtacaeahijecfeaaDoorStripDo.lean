/-
  The reference of strip: Do (a call on a list of set bits), and the law's own words do.
-/
import Derived.Test.YtacaeahijecfeaaDoorStripCopy
namespace Go.Proofs.YtacaeahijecfeaaDoor
open Go.RowKit Go.Shelf Go.Proofs.YtacaeahijecfeaaDoorW.PrintWords Go.Proofs.YtacaeahijecfeaaDoorW.PrintMore
set_option linter.unusedVariables false
set_option linter.unusedSimpArgs false

/-! ### the plain part -/
def doTo (d : Nat) (i j : Int) : Int := if d % 4 < 2 then i + 1 else j
def stepN (B d f k : Nat) : Nat × Nat := if d % 2 = 0 then (fillN B f k, k - f - segN B f k) else (wipeN B f k, segN B f k)
def doN (n B d : Nat) (i j : Int) : Nat × Nat :=
  if d % 4 < 2 ∧ inB n i = false then (B, 0) else stepN B d (fromN i) (toN (doTo d i j) (64 * n))

theorem step_start (B d f k : Nat) (h : k ≤ f) : stepN B d f k = (B, 0) := by
  unfold stepN
  rw [fill_none B f k h, wipe_none B f k h, seg_none B f k h, show k - f - 0 = 0 by omega]
  split <;> rfl
theorem step_tb (B d f k : Nat) (h : f ≤ k) : (stepN B d f k).1.testBit k = B.testBit k := by
  unfold stepN
  split
  · show (fillN B f k).testBit k = _
    rw [tb_fill, decide_eq_false (by omega)]; simp
  · show (wipeN B f k).testBit k = _
    rw [tb_wipe, decide_eq_false (by omega)]; simp
theorem step_same (B d f k : Nat) (h : f ≤ k) (ht : B.testBit k = decide (d % 2 = 0)) : stepN B d f (k + 1) = stepN B d f k := by
  have hb := step_tb B d f k h
  have hs := seg_add B f k (k + 1) h (by omega)
  have hl := seg_le B f k
  rw [seg_one] at hs
  unfold stepN at hb ⊢
  split
  · rename_i hd
    rw [if_pos hd] at hb
    rw [ht, decide_eq_true hd] at hb hs
    rw [← fill_fill B f k (k + 1) h (by omega), fill_same _ _ hb]
    simp only [if_true] at hs
    congr 1; omega
  · rename_i hd
    rw [if_neg hd] at hb
    rw [ht, decide_eq_false hd] at hb hs
    rw [← wipe_wipe B f k (k + 1) h (by omega), wipe_same _ _ hb]
    simp at hs
    congr 1; omega
theorem step_new (B d f k : Nat) (h : f ≤ k) (ht : B.testBit k = !decide (d % 2 = 0)) : stepN B d f (k + 1) = (if d % 2 = 0 then fillN (stepN B d f k).1 k (k + 1) else wipeN (stepN B d f k).1 k (k + 1), (stepN B d f k).2 + 1) := by
  have hs := seg_add B f k (k + 1) h (by omega)
  have hl := seg_le B f k
  rw [seg_one, ht] at hs
  unfold stepN
  split
  · rename_i hd
    rw [decide_eq_true hd] at hs
    rw [← fill_fill B f k (k + 1) h (by omega)]
    simp at hs
    congr 1
    show k + 1 - f - segN B f (k + 1) = k - f - segN B f k + 1
    omega
  · rename_i hd
    rw [decide_eq_false hd] at hs
    rw [← wipe_wipe B f k (k + 1) h (by omega)]
    simp at hs
    congr 1
    show segN B f (k + 1) = segN B f k + 1
    omega

/-! ### in memory -/
theorem nw_any {S : Nat → Prop} {W W1 : World} (h : Nw W W1) : Fr S W W1 := ⟨h.os, h.tape, h.output, h.size, fun k hk _ => h.block k hk (fun h => h)⟩
/-- Block x is the document's strip: n words, the set bits l; its row is its own. -/
def RS (W : World) (x n : Nat) (l : List Int) : Prop := ∃ v, W.heap[x]? = some (.cells #[.int .i64 n, v] 27 (0, 0)) ∧ Kd.R (Kd.int .i64) 3 W (x + 1) (fun _ => True) v l

theorem R_keep {W W1 : World} {base : Nat} {v : Value} {l : List Int} (h : Kd.R (Kd.int .i64) 3 W base (fun _ => True) v l) {base' : Nat} (hb : ∀ g, base ≤ g → base' ≤ g)
    (hk : ∀ g cs m, base ≤ g → W.heap[g]? = some (.cells cs 3 m) → W1.heap[g]? = some (.cells cs 3 m)) : Kd.R (Kd.int .i64) 3 W1 base' (fun _ => True) v l := by
  obtain ⟨hl, hrow⟩ := Kd.own_of_R h
  rcases hrow with ⟨rfl, h0⟩ | ⟨g, cap, cur, rfl, hg, hblk, h1⟩
  · exact Kd.R_of_own ⟨hl, .inl ⟨rfl, h0⟩⟩ (fun _ _ => trivial)
  · exact Kd.R_of_own ⟨hl, .inr ⟨g, cap, cur, rfl, hb g hg, hk g _ _ hg hblk, h1⟩⟩ (fun _ _ => trivial)
theorem RS.keep {W W1 : World} {x n : Nat} {l : List Int} (h : RS W x n l) (hk : ∀ (k : Nat) (cs : Array Value) (t : TypeId) (m : Nat × Nat), (t = 27 ∨ t = 3) → W.heap[k]? = some (Obj.cells cs t m) → W1.heap[k]? = some (Obj.cells cs t m)) : RS W1 x n l := by
  obtain ⟨v, h1, h2⟩ := h
  exact ⟨v, hk _ _ _ _ (.inl rfl) h1, R_keep h2 (fun _ h => h) (fun g cs m _ hb => hk g cs _ m (.inr rfl) hb)⟩
theorem RS.nw {W W1 : World} {x n : Nat} {l : List Int} (h : RS W x n l) (hf : Nw W W1) : RS W1 x n l := h.keep (fun k cs t m _ hb => hf.blk hb (fun h => h))
theorem RS.xlt {W : World} {x n : Nat} {l : List Int} (h : RS W x n l) : x < W.heap.size := by obtain ⟨v, h1, _⟩ := h; exact blk_lt h1
/-- What turned was a strip's words. -/
theorem RS.strip {W W1 : World} {x n : Nat} {l : List Int} (h : RS W x n l) {p q m B : Nat} (hs : St W p q m B) (hf : Fr (One q) W W1) : RS W1 x n l := by
  obtain ⟨cur, hq, _⟩ := hs.cells
  refine h.keep (fun k cs t mm ht hb => hf.blk hb (fun e => ?_))
  have : k = q := e
  subst this
  rw [hq] at hb
  injection hb with hb
  injection hb with _ h2 _
  rcases ht with rfl | rfl <;> exact absurd h2 (by decide)
/-- What turned was the document's strip. -/
theorem St.ref {W W1 : World} {x n : Nat} {l : List Int} (h : RS W x n l) {p q m B : Nat} (hs : St W p q m B) (hf : Fr (One x) W W1) : St W1 p q m B := by
  obtain ⟨v, hx, _⟩ := h
  obtain ⟨cur, hq, _⟩ := hs.cells
  obtain ⟨c, hp⟩ := hs.head
  refine hs.nw hf (fun e => ?_) (fun e => ?_)
  · have : p = x := e
    subst this
    rw [hx] at hp
    injection hp with hp
    injection hp with _ h2 _
    exact absurd h2 (by decide)
  · have : q = x := e
    subst this
    rw [hx] at hq
    injection hq with hq
    injection hq with _ h2 _
    exact absurd h2 (by decide)
theorem RS.reads {W : World} {x n : Nat} {l : List Int} (h : RS W x n l) : ∃ A c, W.cell? ⟨x, 0, none⟩ = some (.int .i64 n) ∧ W.cell? ⟨x, 1, none⟩ = some (.slice A l.length c) ∧ W.frozen? ⟨x, 1, none⟩ = false ∧ Kd.C (Kd.int .i64) W A l.length l := by
  obtain ⟨v, h1, h2⟩ := h
  obtain ⟨A, c, rfl, _, hC⟩ := Kd.R_reads h2
  exact ⟨A, c, blk_cell h1 0, blk_cell h1 1, blk_frozen h1 1, hC⟩
theorem RS.put {W W1 : World} {x n : Nat} {l l' : List Int} (h : RS W x n l) {v : Value} (hb : Below W.heap.size W W1) (hr : Kd.R (Kd.int .i64) 3 W1 W.heap.size (fun _ => True) v l') : RS (W1.setCell ⟨x, 1, none⟩ v) x n l' := by
  have hx := h.xlt
  obtain ⟨v0, h1, _⟩ := h
  have h2 := (hb.block x hx).trans h1
  exact ⟨v, by have := blk_set h2 1 v; simpa using this, R_keep hr (fun g hg => by omega) (fun g cs m hg hb => blk_far hb (by show g ≠ x; omega) _)⟩

set_option maxRecDepth 100000 in
set_option maxHeartbeats 4000000 in
theorem refdo_calls (x n B d : Nat) (i j : Int) (w : World) (h : RS w x n (listB n B)) (hn : n ≤ 4096) (hd : d < 256) :
    Calls Tryd.prog 58 #[.pointer (some ⟨x, 0, none⟩), .agg #[.int .u8 d, .int .i64 i, .int .i64 j]] w fun e w' => e = .returned (.int .i64 ((doN n B d i j).2 : Nat)) ∧ RS w' x n (listB n (doN n B d i j).1) ∧ Fr (One x) w w' := by
  have HR := Lib.hid h
  obtain ⟨A0, c0, hc0, hc1, hf1, _⟩ := h.reads
  have hxl := h.xlt
  clear h
  by_cases h4 : d % 4 < 2
  · by_cases hin : inB n i = true
    · have e0 : doN n B d i j = stepN B d (fromN i) (toN (i + 1) (64 * n)) := by rw [doN, if_neg (by rw [hin]; simp), doTo, if_pos h4]
      rw [e0]
      have h4' : (d : Int) % 4 < 2 := by omega
      have e5 : (d : Int).tmod 4 = (d : Int) % 4 := by rw [Int.tmod_eq_emod_of_nonneg (by omega)]
      clear e0
      obtain ⟨hq0, hq1⟩ := of_decide_eq_true hin
      have hq2 : ¬ i < 0 := by omega
      have hq3 : ¬ 64 * (n : Int) ≤ i := by omega
      have hs : IntKind.i64.wrap (64 * (n : Int)) = 64 * (n : Int) := IntWalk.i64_in _ (by omega)
      go_enter Tryd.func58, Tryd.ntmps58
      go_wp2
      have hbx := blk_new w (.cells #[.int .u8 d, .int .i64 i, .int .i64 j] 61)
      have hNw : Nw w (w.alloc (.cells #[.int .u8 d, .int .i64 i, .int .i64 j] 61)) := (Fr.refl _ _).alloc _
      obtain ⟨w1, hw1⟩ : ∃ w1, w1 = w.alloc (.cells #[.int .u8 d, .int .i64 i, .int .i64 j] 61) := ⟨_, rfl⟩
      rw [← hw1] at hbx hNw ⊢
      clear hw1
      have HBx := Lib.hid hbx
      have hx0 := hNw.cell hc0 (fun h => h)
      have hx1 := hNw.cell hc1 (fun h => h)
      have hb0 : w1.cell? ⟨w.heap.size, 0, none⟩ = some (.int .u8 d) := blk_cell hbx 0
      have hb1 : w1.cell? ⟨w.heap.size, 1, none⟩ = some (.int .i64 i) := blk_cell hbx 1
      have hb2 : w1.cell? ⟨w.heap.size, 2, none⟩ = some (.int .i64 j) := blk_cell hbx 2
      have HN := Lib.hid hNw
      have HR1 := Lib.hid (HR.out.nw hNw)
      clear hbx hNw hc0 hc1
      go_quiet (fail)
      go_wp2
      go_quiet (fail)
      clear hs
      go_wp2_with (fail)
      generalize hw2 : World.drewN _ _ = w2
      have hN2 : Nw w w2 := by rw [← hw2]; exact HN.out.drewN _
      have hR2 : RS w2 x n (listB n B) := HR.out.nw hN2
      have hBx2 : w2.heap[w.heap.size]? = some (.cells #[.int .u8 d, .int .i64 i, .int .i64 j] 61 (0, 0)) := by rw [← hw2]; exact HBx.out
      have hxl2 : x < w2.heap.size := hR2.xlt
      have HN2 := Lib.hid hN2
      have HR2 := Lib.hid hR2
      have HBx2 := Lib.hid hBx2
      clear hw2 hx0 hx1 hb0 hb1 hb2 hf1 HR1 HBx HN hN2 hR2 hBx2
      obtain ⟨f, hf⟩ : ∃ f, f = fromN i := ⟨_, rfl⟩
      have e1 : max i 0 = (f : Int) := by rw [hf, fromN]; omega
      obtain ⟨t, ht⟩ : ∃ t, t = toN (i + 1) (64 * n) := ⟨_, rfl⟩
      have e2 : (t : Int) = max (min (i + 1) (64 * (n : Int))) 0 := by rw [ht, toN]; omega
      have HF := Lib.hid hf
      have HT := Lib.hid ht
      have HE2 := Lib.hid e2
      clear hf ht e2 e5
      go_wp2
      go_loopw [7, 8] (fun nn ii wr => ∃ k c : Nat, nn = .int .i64 c ∧ ii = .int .i64 k ∧ f ≤ k ∧ k ≤ max f t ∧ c ≤ k ∧ Hid (c = (stepN B d f k).2) ∧ Hid (RS wr x n (listB n (stepN B d f k).1)) ∧ Hid (Fr (One x) w2 wr)) (fun _ ii _ => t - (intOf ii).toNat)
      case atStart => exact ⟨f, 0, rfl, by rw [e1], Nat.le_refl _, by omega, by omega, Lib.hid (by rw [step_start _ _ _ _ (Nat.le_refl _)]), Lib.hid (by rw [step_start _ _ _ _ (Nat.le_refl _)]; exact HR2.out), Lib.hid (Fr.refl _ _)⟩
      case round =>
        obtain ⟨k, c, rfl, rfl, hfk, hkt, hck, HCc, HRr, HFr⟩ := hrel
        clear e1
        have HBw := HFr.out.blk HBx2.out (by exact One.ne (by omega))
        have hb0 : wr.cell? ⟨w.heap.size, 0, none⟩ = some (.int .u8 d) := blk_cell HBw 0
        clear HBw
        obtain ⟨A, c', hx0, hx1, hfr, hC⟩ := HRr.out.reads
        obtain ⟨M, hM⟩ : ∃ M, min (i + 1) (64 * (n : Int)) = M := ⟨_, rfl⟩
        have hM2 : (t : Int) = max M 0 := by rw [← hM]; exact HE2.out
        have hM3 : M ≤ 64 * n := by rw [← hM]; omega
        by_cases h : (k : Int) < M
        · have hkt2 : k < t := by omega
          have hll := listB_len n (stepN B d f k).1
          have htb : hasL (listB n (stepN B d f k).1) (k : Int) = B.testBit k := by
            rw [has_listB, ← step_tb B d f k hfk]
            have h64 : (k : Int) < 64 * n := by omega
            simp [h64]
          have HHas := Lib.hid (fun W (hC : Kd.C (Kd.int .i64) W A (listB n (stepN B d f k).1).length (listB n (stepN B d f k).1)) => has_calls A c' (listB n (stepN B d f k).1) k W hC (by omega))
          obtain ⟨l, hl⟩ : ∃ l, l = listB n (stepN B d f k).1 := ⟨_, rfl⟩
          rw [← hl] at hx1 hC hll htb HHas
          rw [htb] at HHas
          have HL := Lib.hid hl
          clear hl htb
          have HDr : Hid (Kd.C (Kd.int .i64) wr.drew A l.length l) := Lib.hid (Kd.C_below hC ((Below.refl _ wr).drew))
          have e6 : (d : Int).tmod 2 = (d : Int) % 2 := by rw [Int.tmod_eq_emod_of_nonneg (by omega)]
          have e7 : 0 ≤ (d : Int) % 2 ∧ (d : Int) % 2 < 2 := by omega
          have e8 : IntKind.u8.wrap ((d : Int) % 2) = (d : Int) % 2 := by unfold IntKind.wrap; simp [IntKind.signed, IntKind.bits]; omega
          go_wp2
          refine wp_still 10 (by kernel_rfl) (by kernel_rfl) ?_
          simp only [List.take_succ_cons, List.take_zero, List.drop_succ_cons, List.drop_zero]
          repeat still_step
          still_call (Calls.mono (HHas.out _ HDr.out) (fun _ _ h => ⟨h.1, h.2.symm⟩))
          repeat still_step
          refine wpStill_nil ?_
          clear e6 e7 e8
          have HA := Lib.hid (add_calls A c' l k wr.drew HDr.out (by omega))
          have HD := Lib.hid (drop_calls A c' l k wr.drew HDr.out (by omega))
          obtain ⟨vx, hxb, _⟩ := HRr.out
          have HXB := Lib.hid hxb
          have hxl3 := blk_lt hxb
          obtain ⟨la, hla⟩ : ∃ la, la = addL l k := ⟨_, rfl⟩
          obtain ⟨ld, hld⟩ : ∃ ld, ld = dropL l k := ⟨_, rfl⟩
          rw [← hla] at HA
          rw [← hld] at HD
          have HLa : Hid (la = listB n (fillN (stepN B d f k).1 k (k + 1))) := Lib.hid (by rw [hla, HL.out]; exact add_listB n _ k (by omega))
          have HLd : Hid (ld = listB n (wipeN (stepN B d f k).1 k (k + 1))) := Lib.hid (by rw [hld, HL.out]; exact drop_listB n _ k)
          clear hla hld hC hxb
          go_wp2_with (first | (go_at_call 70; refine HA.out.mono ?_; rintro e w5 ⟨v5, rfl, ho, hb⟩; obtain ⟨A5, c5, rfl, _, _⟩ := Kd.R_reads ho; have hf5 := blk_frozen ((hb.block x hxl3).trans HXB.out) 1; have hx5 := (blk_cell ((hb.block x hxl3).trans HXB.out) 1).trans (show _ = some vx from rfl)) | (go_at_call 71; refine HD.out.mono ?_; rintro e w5 ⟨v5, rfl, ho, hb⟩; obtain ⟨A5, c5, rfl, _, _⟩ := Kd.R_reads ho; have hf5 := blk_frozen ((hb.block x hxl3).trans HXB.out) 1; have hx5 := (blk_cell ((hb.block x hxl3).trans HXB.out) 1).trans (show _ = some vx from rfl)))
          · have hp : (B.testBit k == ((d : Int) % 2 == 0)) = true := by assumption
            have HSame := Lib.hid (step_same B d f k hfk (by rw [beq_iff_eq.1 hp, Bool.eq_iff_iff, beq_iff_eq, decide_eq_true_iff]; omega))
            clear hp
            go_roundw
            case rel => exact ⟨k + 1, c, rfl, by go_num, by omega, by omega, by omega, Lib.hid (by rw [HSame.out]; exact HCc.out), Lib.hid (by rw [HSame.out]; exact HRr.out.nw (Fr.refl _ _).drew), Lib.hid HFr.out.drew⟩
            case measure => simp [intOf]; omega
          · have hp : (B.testBit k == ((d : Int) % 2 == 0)) = false := by assumption
            have hd0 : ((d : Int) % 2 == 0) = true := by assumption
            have hd1 : d % 2 = 0 := by have := beq_iff_eq.1 hd0; omega
            have HStep := Lib.hid (step_new B d f k hfk (by rw [hd0] at hp; rw [decide_eq_true hd1]; simpa using hp))
            rw [if_pos hd1] at HStep
            clear hp hd0 hd1
            go_roundw
            case rel => exact ⟨k + 1, c + 1, by go_num, by go_num, by omega, by omega, by omega, Lib.hid (by rw [HStep.out, HCc.out]), Lib.hid (by rw [HStep.out, ← HLa.out]; exact (HRr.out.nw (Fr.refl _ _).drew).put hb ho), Lib.hid ((HFr.out.drew.trans (Fr.of_below hb)).set (One.self x) 1 _)⟩
            case measure => simp [intOf]; omega
          · have hp : (B.testBit k == ((d : Int) % 2 == 0)) = false := by assumption
            have hd0 : ((d : Int) % 2 == 0) = false := by assumption
            have hd1 : ¬ d % 2 = 0 := by have := beq_eq_false_iff_ne.1 hd0; omega
            have HStep := Lib.hid (step_new B d f k hfk (by rw [hd0] at hp; rw [decide_eq_false hd1]; simpa using hp))
            rw [if_neg hd1] at HStep
            clear hp hd0 hd1
            go_roundw
            case rel => exact ⟨k + 1, c + 1, by go_num, by go_num, by omega, by omega, by omega, Lib.hid (by rw [HStep.out, HCc.out]), Lib.hid (by rw [HStep.out, ← HLd.out]; exact (HRr.out.nw (Fr.refl _ _).drew).put hb ho), Lib.hid ((HFr.out.drew.trans (Fr.of_below hb)).set (One.self x) 1 _)⟩
            case measure => simp [intOf]; omega
        · have hkt2 : k = max f t := by omega
          clear hC
          have HE : Hid (stepN B d f k = stepN B d (fromN i) (toN (i + 1) (64 * n))) := Lib.hid (by
            rw [← HF.out, ← HT.out]
            rcases Nat.le_total f t with ht | ht
            · rw [hkt2, Nat.max_eq_right ht]
            · rw [step_start _ _ _ _ ht, hkt2, Nat.max_eq_left ht, step_start _ _ _ _ (Nat.le_refl _)])
          clear hkt2
          go_wp2
          go_ret
          exact ⟨ret_int (by rw [← HE.out, ← HCc.out]), by rw [← HE.out]; exact HRr.out, (nw_any HN2.out).trans_of HFr.out (fun _ _ h => h)⟩
    · have hf : inB n i = false := by simpa using hin
      have e0 : doN n B d i j = (B, 0) := by rw [doN, if_pos ⟨h4, hf⟩]
      rw [e0]
      have h4' : (d : Int) % 4 < 2 := by omega
      have e5 : (d : Int).tmod 4 = (d : Int) % 4 := by rw [Int.tmod_eq_emod_of_nonneg (by omega)]
      clear e0
      have hq := of_decide_eq_false hf
      go_enter Tryd.func58, Tryd.ntmps58
      go_wp2
      have hbx := blk_new w (.cells #[.int .u8 d, .int .i64 i, .int .i64 j] 61)
      have hNw : Nw w (w.alloc (.cells #[.int .u8 d, .int .i64 i, .int .i64 j] 61)) := (Fr.refl _ _).alloc _
      obtain ⟨w1, hw1⟩ : ∃ w1, w1 = w.alloc (.cells #[.int .u8 d, .int .i64 i, .int .i64 j] 61) := ⟨_, rfl⟩
      rw [← hw1] at hbx hNw ⊢
      clear hw1
      have HBx := Lib.hid hbx
      have hx0 := hNw.cell hc0 (fun h => h)
      have hx1 := hNw.cell hc1 (fun h => h)
      have hb0 : w1.cell? ⟨w.heap.size, 0, none⟩ = some (.int .u8 d) := blk_cell hbx 0
      have hb1 : w1.cell? ⟨w.heap.size, 1, none⟩ = some (.int .i64 i) := blk_cell hbx 1
      have hb2 : w1.cell? ⟨w.heap.size, 2, none⟩ = some (.int .i64 j) := blk_cell hbx 2
      have HN := Lib.hid hNw
      have HR1 := Lib.hid (HR.out.nw hNw)
      clear hbx hNw hc0 hc1
      go_quiet (fail)
      go_wp2
      have hs : IntKind.i64.wrap (64 * (n : Int)) = 64 * (n : Int) := IntWalk.i64_in _ (by omega)
      by_cases h0 : i < 0
      · go_quiet (fail)
        clear hs
        go_wp2
        go_ret
        exact ⟨rfl, HR1.out.nw (by first | exact (Fr.refl _ _).drewN _ | exact ((Fr.refl _ _).drewN _).drewN _), nw_any (by first | exact HN.out.drewN _ | exact (HN.out.drewN _).drewN _)⟩
      · have hq3 : 64 * (n : Int) ≤ i := by omega
        go_quiet (fail)
        clear hs
        go_wp2
        go_ret
        exact ⟨rfl, HR1.out.nw (by first | exact (Fr.refl _ _).drewN _ | exact ((Fr.refl _ _).drewN _).drewN _), nw_any (by first | exact HN.out.drewN _ | exact (HN.out.drewN _).drewN _)⟩
  · by_cases hin : True
    · have e0 : doN n B d i j = stepN B d (fromN i) (toN j (64 * n)) := by rw [doN, if_neg (fun h => h4 h.1), doTo, if_neg h4]
      rw [e0]
      have h4' : ¬ (d : Int) % 4 < 2 := by omega
      have e5 : (d : Int).tmod 4 = (d : Int) % 4 := by rw [Int.tmod_eq_emod_of_nonneg (by omega)]
      clear e0
      go_enter Tryd.func58, Tryd.ntmps58
      go_wp2
      have hbx := blk_new w (.cells #[.int .u8 d, .int .i64 i, .int .i64 j] 61)
      have hNw : Nw w (w.alloc (.cells #[.int .u8 d, .int .i64 i, .int .i64 j] 61)) := (Fr.refl _ _).alloc _
      obtain ⟨w1, hw1⟩ : ∃ w1, w1 = w.alloc (.cells #[.int .u8 d, .int .i64 i, .int .i64 j] 61) := ⟨_, rfl⟩
      rw [← hw1] at hbx hNw ⊢
      clear hw1
      have HBx := Lib.hid hbx
      have hx0 := hNw.cell hc0 (fun h => h)
      have hx1 := hNw.cell hc1 (fun h => h)
      have hb0 : w1.cell? ⟨w.heap.size, 0, none⟩ = some (.int .u8 d) := blk_cell hbx 0
      have hb1 : w1.cell? ⟨w.heap.size, 1, none⟩ = some (.int .i64 i) := blk_cell hbx 1
      have hb2 : w1.cell? ⟨w.heap.size, 2, none⟩ = some (.int .i64 j) := blk_cell hbx 2
      have HN := Lib.hid hNw
      have HR1 := Lib.hid (HR.out.nw hNw)
      clear hbx hNw hc0 hc1
      go_quiet (fail)
      go_wp2_with (fail)
      generalize hw2 : World.drewN _ _ = w2
      have hN2 : Nw w w2 := by rw [← hw2]; exact HN.out.drewN _
      have hR2 : RS w2 x n (listB n B) := HR.out.nw hN2
      have hBx2 : w2.heap[w.heap.size]? = some (.cells #[.int .u8 d, .int .i64 i, .int .i64 j] 61 (0, 0)) := by rw [← hw2]; exact HBx.out
      have hxl2 : x < w2.heap.size := hR2.xlt
      have HN2 := Lib.hid hN2
      have HR2 := Lib.hid hR2
      have HBx2 := Lib.hid hBx2
      clear hw2 hx0 hx1 hb0 hb1 hb2 hf1 HR1 HBx HN hN2 hR2 hBx2
      obtain ⟨f, hf⟩ : ∃ f, f = fromN i := ⟨_, rfl⟩
      have e1 : max i 0 = (f : Int) := by rw [hf, fromN]; omega
      obtain ⟨t, ht⟩ : ∃ t, t = toN (j) (64 * n) := ⟨_, rfl⟩
      have e2 : (t : Int) = max (min (j) (64 * (n : Int))) 0 := by rw [ht, toN]; omega
      have HF := Lib.hid hf
      have HT := Lib.hid ht
      have HE2 := Lib.hid e2
      clear hf ht e2 e5
      go_wp2
      go_loopw [7, 8] (fun nn ii wr => ∃ k c : Nat, nn = .int .i64 c ∧ ii = .int .i64 k ∧ f ≤ k ∧ k ≤ max f t ∧ c ≤ k ∧ Hid (c = (stepN B d f k).2) ∧ Hid (RS wr x n (listB n (stepN B d f k).1)) ∧ Hid (Fr (One x) w2 wr)) (fun _ ii _ => t - (intOf ii).toNat)
      case atStart => exact ⟨f, 0, rfl, by rw [e1], Nat.le_refl _, by omega, by omega, Lib.hid (by rw [step_start _ _ _ _ (Nat.le_refl _)]), Lib.hid (by rw [step_start _ _ _ _ (Nat.le_refl _)]; exact HR2.out), Lib.hid (Fr.refl _ _)⟩
      case round =>
        obtain ⟨k, c, rfl, rfl, hfk, hkt, hck, HCc, HRr, HFr⟩ := hrel
        clear e1
        have HBw := HFr.out.blk HBx2.out (by exact One.ne (by omega))
        have hb0 : wr.cell? ⟨w.heap.size, 0, none⟩ = some (.int .u8 d) := blk_cell HBw 0
        clear HBw
        obtain ⟨A, c', hx0, hx1, hfr, hC⟩ := HRr.out.reads
        obtain ⟨M, hM⟩ : ∃ M, min (j) (64 * (n : Int)) = M := ⟨_, rfl⟩
        have hM2 : (t : Int) = max M 0 := by rw [← hM]; exact HE2.out
        have hM3 : M ≤ 64 * n := by rw [← hM]; omega
        by_cases h : (k : Int) < M
        · have hkt2 : k < t := by omega
          have hll := listB_len n (stepN B d f k).1
          have htb : hasL (listB n (stepN B d f k).1) (k : Int) = B.testBit k := by
            rw [has_listB, ← step_tb B d f k hfk]
            have h64 : (k : Int) < 64 * n := by omega
            simp [h64]
          have HHas := Lib.hid (fun W (hC : Kd.C (Kd.int .i64) W A (listB n (stepN B d f k).1).length (listB n (stepN B d f k).1)) => has_calls A c' (listB n (stepN B d f k).1) k W hC (by omega))
          obtain ⟨l, hl⟩ : ∃ l, l = listB n (stepN B d f k).1 := ⟨_, rfl⟩
          rw [← hl] at hx1 hC hll htb HHas
          rw [htb] at HHas
          have HL := Lib.hid hl
          clear hl htb
          have HDr : Hid (Kd.C (Kd.int .i64) wr.drew A l.length l) := Lib.hid (Kd.C_below hC ((Below.refl _ wr).drew))
          have e6 : (d : Int).tmod 2 = (d : Int) % 2 := by rw [Int.tmod_eq_emod_of_nonneg (by omega)]
          have e7 : 0 ≤ (d : Int) % 2 ∧ (d : Int) % 2 < 2 := by omega
          have e8 : IntKind.u8.wrap ((d : Int) % 2) = (d : Int) % 2 := by unfold IntKind.wrap; simp [IntKind.signed, IntKind.bits]; omega
          go_wp2
          refine wp_still 10 (by kernel_rfl) (by kernel_rfl) ?_
          simp only [List.take_succ_cons, List.take_zero, List.drop_succ_cons, List.drop_zero]
          repeat still_step
          still_call (Calls.mono (HHas.out _ HDr.out) (fun _ _ h => ⟨h.1, h.2.symm⟩))
          repeat still_step
          refine wpStill_nil ?_
          clear e6 e7 e8
          have HA := Lib.hid (add_calls A c' l k wr.drew HDr.out (by omega))
          have HD := Lib.hid (drop_calls A c' l k wr.drew HDr.out (by omega))
          obtain ⟨vx, hxb, _⟩ := HRr.out
          have HXB := Lib.hid hxb
          have hxl3 := blk_lt hxb
          obtain ⟨la, hla⟩ : ∃ la, la = addL l k := ⟨_, rfl⟩
          obtain ⟨ld, hld⟩ : ∃ ld, ld = dropL l k := ⟨_, rfl⟩
          rw [← hla] at HA
          rw [← hld] at HD
          have HLa : Hid (la = listB n (fillN (stepN B d f k).1 k (k + 1))) := Lib.hid (by rw [hla, HL.out]; exact add_listB n _ k (by omega))
          have HLd : Hid (ld = listB n (wipeN (stepN B d f k).1 k (k + 1))) := Lib.hid (by rw [hld, HL.out]; exact drop_listB n _ k)
          clear hla hld hC hxb
          go_wp2_with (first | (go_at_call 70; refine HA.out.mono ?_; rintro e w5 ⟨v5, rfl, ho, hb⟩; obtain ⟨A5, c5, rfl, _, _⟩ := Kd.R_reads ho; have hf5 := blk_frozen ((hb.block x hxl3).trans HXB.out) 1; have hx5 := (blk_cell ((hb.block x hxl3).trans HXB.out) 1).trans (show _ = some vx from rfl)) | (go_at_call 71; refine HD.out.mono ?_; rintro e w5 ⟨v5, rfl, ho, hb⟩; obtain ⟨A5, c5, rfl, _, _⟩ := Kd.R_reads ho; have hf5 := blk_frozen ((hb.block x hxl3).trans HXB.out) 1; have hx5 := (blk_cell ((hb.block x hxl3).trans HXB.out) 1).trans (show _ = some vx from rfl)))
          · have hp : (B.testBit k == ((d : Int) % 2 == 0)) = true := by assumption
            have HSame := Lib.hid (step_same B d f k hfk (by rw [beq_iff_eq.1 hp, Bool.eq_iff_iff, beq_iff_eq, decide_eq_true_iff]; omega))
            clear hp
            go_roundw
            case rel => exact ⟨k + 1, c, rfl, by go_num, by omega, by omega, by omega, Lib.hid (by rw [HSame.out]; exact HCc.out), Lib.hid (by rw [HSame.out]; exact HRr.out.nw (Fr.refl _ _).drew), Lib.hid HFr.out.drew⟩
            case measure => simp [intOf]; omega
          · have hp : (B.testBit k == ((d : Int) % 2 == 0)) = false := by assumption
            have hd0 : ((d : Int) % 2 == 0) = true := by assumption
            have hd1 : d % 2 = 0 := by have := beq_iff_eq.1 hd0; omega
            have HStep := Lib.hid (step_new B d f k hfk (by rw [hd0] at hp; rw [decide_eq_true hd1]; simpa using hp))
            rw [if_pos hd1] at HStep
            clear hp hd0 hd1
            go_roundw
            case rel => exact ⟨k + 1, c + 1, by go_num, by go_num, by omega, by omega, by omega, Lib.hid (by rw [HStep.out, HCc.out]), Lib.hid (by rw [HStep.out, ← HLa.out]; exact (HRr.out.nw (Fr.refl _ _).drew).put hb ho), Lib.hid ((HFr.out.drew.trans (Fr.of_below hb)).set (One.self x) 1 _)⟩
            case measure => simp [intOf]; omega
          · have hp : (B.testBit k == ((d : Int) % 2 == 0)) = false := by assumption
            have hd0 : ((d : Int) % 2 == 0) = false := by assumption
            have hd1 : ¬ d % 2 = 0 := by have := beq_eq_false_iff_ne.1 hd0; omega
            have HStep := Lib.hid (step_new B d f k hfk (by rw [hd0] at hp; rw [decide_eq_false hd1]; simpa using hp))
            rw [if_neg hd1] at HStep
            clear hp hd0 hd1
            go_roundw
            case rel => exact ⟨k + 1, c + 1, by go_num, by go_num, by omega, by omega, by omega, Lib.hid (by rw [HStep.out, HCc.out]), Lib.hid (by rw [HStep.out, ← HLd.out]; exact (HRr.out.nw (Fr.refl _ _).drew).put hb ho), Lib.hid ((HFr.out.drew.trans (Fr.of_below hb)).set (One.self x) 1 _)⟩
            case measure => simp [intOf]; omega
        · have hkt2 : k = max f t := by omega
          clear hC
          have HE : Hid (stepN B d f k = stepN B d (fromN i) (toN (j) (64 * n))) := Lib.hid (by
            rw [← HF.out, ← HT.out]
            rcases Nat.le_total f t with ht | ht
            · rw [hkt2, Nat.max_eq_right ht]
            · rw [step_start _ _ _ _ ht, hkt2, Nat.max_eq_left ht, step_start _ _ _ _ (Nat.le_refl _)])
          clear hkt2
          go_wp2
          go_ret
          exact ⟨ret_int (by rw [← HE.out, ← HCc.out]), by rw [← HE.out]; exact HRr.out, (nw_any HN2.out).trans_of HFr.out (fun _ _ h => h)⟩
    · exact absurd trivial hin


end Go.Proofs.YtacaeahijecfeaaDoor
