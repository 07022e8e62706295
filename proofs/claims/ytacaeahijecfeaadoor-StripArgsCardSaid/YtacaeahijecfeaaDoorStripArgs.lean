/-
  StripArgs: strips that there can't be; a nil one.
-/
import Derived.Test.YtacaeahijecfeaaDoorStripAwake
import Derived.Test.YtacaeahijecfeaaDoorStripAll
import Derived.Test.YtacaeahijecfeaaDoorStripSel
namespace Go.Proofs.YtacaeahijecfeaaDoor
open Go.RowKit Go.Shelf Go.Proofs.YtacaeahijecfeaaDoorW.PrintWords Go.Proofs.YtacaeahijecfeaaDoorW.PrintMore
set_option linter.unusedVariables false
set_option linter.unusedSimpArgs false

theorem sp_none (W : World) (q : Nat) : SP W none q 0 0 := .inr ⟨rfl, rfl, rfl⟩
theorem nw_top {W W1 : World} (h : Fr (One W.heap.size) W W1) : Nw W W1 := h.mono (fun k hk e => by have : k = W.heap.size := e; omega)

theorem new_bad (n : Int) (w : World) (hn : ¬ (0 ≤ n ∧ n ≤ 4096)) :
    Calls Tryd.prog 33 #[.int .i64 n] w fun e w' => e = .returned (.tuple #[.pointer none, .int .i64 1]) ∧ w = w' := by
  by_cases h : n < 0
  · go_enter Tryd.func33, Tryd.ntmps33
    go_wp2
    go_returns
    exact ⟨rfl, rfl⟩
  · have h2 : 4096 < n := by omega
    go_enter Tryd.func33, Tryd.ntmps33
    go_wp2
    go_returns
    exact ⟨rfl, rfl⟩
theorem of_bad (A : Option Addr) (c : Nat) (w : World) :
    Calls Tryd.prog 26 #[.slice A 4097 c] w fun e w' => e = .returned (.tuple #[.pointer none, .int .i64 1]) ∧ w = w' := by
  go_enter Tryd.func26, Tryd.ntmps26
  go_wp2
  go_returns
  exact ⟨rfl, rfl⟩
theorem get_nil (i : Int) (w : World) : Calls Tryd.prog 32 #[.pointer none, .int .i64 i] w fun e w' => e = .returned (.bool false) ∧ w = w' := by
  have h := sget_calls none w.heap.size 0 0 i w (sp_none _ _)
  rw [show getB 0 0 i = false by rw [getB, inB, decide_eq_false (by omega)]; rfl] at h
  exact h
theorem set_nil (i : Int) (w : World) : Calls Tryd.prog 28 #[.pointer none, .int .i64 i] w fun e w' => e = .returned (.bool false) ∧ Nw w w' := by
  have h := sset_calls none w.heap.size 0 0 i w (sp_none _ _)
  rw [show (inB 0 i && !(0 : Nat).testBit i.toNat) = false by rw [inB, decide_eq_false (by omega)]; rfl] at h
  exact h.mono (fun e w' h => ⟨h.1, nw_top h.2.2⟩)
theorem clear_nil (i : Int) (w : World) : Calls Tryd.prog 41 #[.pointer none, .int .i64 i] w fun e w' => e = .returned (.bool false) ∧ Nw w w' := by
  have h := sclear_calls none w.heap.size 0 0 i w (sp_none _ _)
  rw [show getB 0 0 i = false by rw [getB, inB, decide_eq_false (by omega)]; rfl] at h
  exact h.mono (fun e w' h => ⟨h.1, nw_top h.2.2⟩)
theorem fill_nil (i j : Int) (w : World) : Calls Tryd.prog 17 #[.pointer none, .int .i64 i, .int .i64 j] w fun e w' => e = .returned (.int .i64 0) ∧ Nw w w' := by
  have h := fill_calls none w.heap.size 0 0 i j w (sp_none _ _)
  rw [show toN j (64 * 0) - fromN i - segN 0 (fromN i) (toN j (64 * 0)) = 0 by have : toN j (64 * 0) = 0 := by { unfold toN; omega }; omega] at h
  exact h.mono (fun e w' h => ⟨h.1, nw_top h.2.2⟩)
theorem wipe_nil (i j : Int) (w : World) : Calls Tryd.prog 16 #[.pointer none, .int .i64 i, .int .i64 j] w fun e w' => e = .returned (.int .i64 0) ∧ Nw w w' := by
  have h := wipe_calls none w.heap.size 0 0 i j w (sp_none _ _)
  rw [seg_none 0 (fromN i) (toN j (64 * 0)) (by have : toN j (64 * 0) = 0 := by { unfold toN; omega }
                                                omega)] at h
  exact h.mono (fun e w' h => ⟨h.1, nw_top h.2.2⟩)
theorem count_nil (w : World) : Calls Tryd.prog 15 #[.pointer none] w fun e w' => e = .returned (.int .i64 0) ∧ Nw w w' := scount_calls none w.heap.size 0 0 w (sp_none _ _)
theorem rank_nil (i : Int) (w : World) : Calls Tryd.prog 13 #[.pointer none, .int .i64 i] w fun e w' => e = .returned (.int .i64 0) ∧ Nw w w' := by
  have h := srank_calls none w.heap.size 0 0 i w (sp_none _ _)
  rw [seg_none 0 0 (toN i (64 * 0)) (by unfold toN; omega)] at h
  exact h
theorem next_nil (i : Int) (w : World) (hT : Tb w) : Calls Tryd.prog 34 #[.pointer none, .int .i64 i] w fun e w' => e = .returned (.int .i64 (-1)) ∧ Nw w w' := snext_calls none w.heap.size 0 0 i w (sp_none _ _) hT
theorem prev_nil (i : Int) (w : World) : Calls Tryd.prog 36 #[.pointer none, .int .i64 i] w fun e w' => e = .returned (.int .i64 (-1)) ∧ w = w' := by
  by_cases h : i < 0
  · go_enter Tryd.func36, Tryd.ntmps36
    go_wp2_with (go_at_call 24; refine (bits_nil_calls _).mono ?_; rintro e w' ⟨rfl, rfl⟩)
    go_ret
    exact ⟨rfl, rfl⟩
  · go_enter Tryd.func36, Tryd.ntmps36
    go_wp2_with (go_at_call 24; refine (bits_nil_calls _).mono ?_; rintro e w' ⟨rfl, rfl⟩)
    go_ret
    exact ⟨rfl, rfl⟩
theorem select_nil (i : Int) (w : World) : Calls Tryd.prog 39 #[.pointer none, .int .i64 i] w fun e w' => e = .returned (.int .i64 (-1)) ∧ w = w' := by
  go_enter Tryd.func39, Tryd.ntmps39
  go_wp2
  go_ret
  exact ⟨rfl, rfl⟩
theorem all_nil (w : World) (hT : Tb w) : Calls Tryd.prog 22 #[.pointer none, .int .i64 9] w fun e w' => ∃ A c, e = .returned (.slice A 0 c) ∧ Nw w w' := by
  refine (sall_calls none w.heap.size 0 0 9 w (sp_none _ _) (by omega) (by omega) hT).mono ?_
  rintro e w' ⟨A, c, h, _, hn⟩
  exact ⟨A, c, h, hn⟩
theorem equal_nil (w : World) : Calls Tryd.prog 27 #[.pointer none, .pointer none] w fun e w' => e = .returned (.bool true) ∧ w = w' := by
  go_enter Tryd.func27, Tryd.ntmps27
  go_wp2
  go_ret
  exact ⟨rfl, rfl⟩
theorem equal_some (p : Nat) (w : World) : Calls Tryd.prog 27 #[.pointer none, .pointer (some ⟨p, 0, none⟩)] w fun e w' => e = .returned (.bool false) ∧ w = w' := by
  have h : ∀ d : Nat, (Op.equalIn (d + 1) 24 (.pointer none) (.pointer (some ⟨p, 0, none⟩))).run Tryd.prog w = .ok false w := fun d => by
    simp [Op.equalIn, run_underlying Tryd.underlying24]
  have hq : (binOp .eql 24 (.pointer none) (.pointer (some ⟨p, 0, none⟩))).run Tryd.prog w = .ok (.bool false) w := by
    simp only [binOp]
    simp [Op.equal, Op.maxDepth, h 9999]
  clear h
  go_enter Tryd.func27, Tryd.ntmps27
  go_wp2
  go_ret
  exact ⟨rfl, rfl⟩

set_option maxRecDepth 100000 in
set_option maxHeartbeats 8000000 in
theorem args_walk (n i j : Int) (w : World) (hT : Tb w) :
    Calls Tryd.prog 9 #[.int .i64 n, .int .i64 i, .int .i64 j] w fun e w' => e = .returned (.bool true) ∧ Nw w w' := by
  have HT := Lib.hid hT
  have HQ0 := Lib.hid (Fr.refl (fun _ => False) w)
  clear hT
  by_cases hn : 0 ≤ n ∧ n ≤ 4096
  · obtain ⟨hn0, hn1⟩ := hn
    obtain ⟨m, rfl⟩ : ∃ m : Nat, n = m := ⟨n.toNat, by omega⟩
    have hm : m ≤ 4096 := by omega
    have HN := Lib.hid (fun W => new_calls m W hm)
    go_enter Tryd.func9, Tryd.ntmps9
    go_wp2_with (first | (go_at_call 10; refine (awake_calls w HT.out).mono ?_; rintro e w1 ⟨rfl, hN1⟩; have HQ := Lib.hid hN1; clear hN1) | (go_at_call 33; refine (HN.out _).mono ?_; rintro e w2 ⟨p, q, rfl, hp, hq, hS, hF⟩; have HS2 := Lib.hid hS; have HQ' := Lib.hid (HQ.out.trans hF); clear HQ hF hS; have HQ := HQ'; clear HQ') | (refine Kd.R_make (Kd.int .u64) (w0 := w2) w2.heap.size 48 rfl rfl 36 (.const (.int .i64 4097)) (.const (.int .i64 4097)) rfl 4097 rfl rfl Tryd.underlying36 (.int .u64 0) 8 (by kernel_rfl) rfl (by decide) (by decide) (0 : Int) (ok := fun _ => True) (okp := fun _ => False) rfl (fun _ h => h.elim) trivial (by omega) (by simp <;> omega) (Below.refl _ w2) (Nat.le_refl _) ?_; intro v1 w9 ho hb hg hat; obtain ⟨A, c, rfl, hc, hC⟩ := Kd.R_reads ho; have HS9 := Lib.hid (HS2.out.nw (Fr.of_below (S := fun _ => False) hb) (fun h => h) (fun h => h)); have HQ' := Lib.hid (HQ.out.trans (Fr.of_below (S := fun _ => False) hb)); clear HQ ho hb hg hat hC; have HQ := HQ'; clear HQ') | (go_at_call 26; refine (of_bad _ _ _).mono ?_; rintro e w' ⟨rfl, rfl⟩) | (go_at_call 24; (with_reducible refine Calls.mono (bits_calls p q m 0 _ HS9.out) ?_); rintro e w' ⟨rfl, rfl⟩) | (go_at_call 27; (with_reducible refine Calls.mono (equal_some p _) ?_); rintro e w' ⟨rfl, rfl⟩) | (go_at_call 24; refine (bits_nil_calls _).mono ?_; rintro e w' ⟨rfl, rfl⟩) | (go_at_call 19; refine ((swords_nil _)).mono ?_; rintro e w' ⟨rfl, rfl⟩) | (go_at_call 32; refine (get_nil i _).mono ?_; rintro e w' ⟨rfl, rfl⟩) | (go_at_call 28; refine (set_nil i _).mono ?_; rintro e w' ⟨rfl, hF⟩; have HQ' := Lib.hid (HQ.out.trans hF); clear HQ hF; have HQ := HQ'; clear HQ') | (go_at_call 41; refine (clear_nil i _).mono ?_; rintro e w' ⟨rfl, hF⟩; have HQ' := Lib.hid (HQ.out.trans hF); clear HQ hF; have HQ := HQ'; clear HQ') | (go_at_call 17; refine (fill_nil i j _).mono ?_; rintro e w' ⟨rfl, hF⟩; have HQ' := Lib.hid (HQ.out.trans hF); clear HQ hF; have HQ := HQ'; clear HQ') | (go_at_call 16; refine (wipe_nil i j _).mono ?_; rintro e w' ⟨rfl, hF⟩; have HQ' := Lib.hid (HQ.out.trans hF); clear HQ hF; have HQ := HQ'; clear HQ') | (go_at_call 15; refine (count_nil _).mono ?_; rintro e w' ⟨rfl, hF⟩; have HQ' := Lib.hid (HQ.out.trans hF); clear HQ hF; have HQ := HQ'; clear HQ') | (go_at_call 34; refine (next_nil i _ (HT.out.step HQ.out)).mono ?_; rintro e w' ⟨rfl, hF⟩; have HQ' := Lib.hid (HQ.out.trans hF); clear HQ hF; have HQ := HQ'; clear HQ') | (go_at_call 36; refine (prev_nil i _).mono ?_; rintro e w' ⟨rfl, rfl⟩) | (go_at_call 13; refine (rank_nil i _).mono ?_; rintro e w' ⟨rfl, hF⟩; have HQ' := Lib.hid (HQ.out.trans hF); clear HQ hF; have HQ := HQ'; clear HQ') | (go_at_call 39; refine (select_nil i _).mono ?_; rintro e w' ⟨rfl, rfl⟩) | (go_at_call 22; refine (all_nil _ (HT.out.step HQ.out)).mono ?_; rintro e w' ⟨A9, c9, rfl, hF⟩; have HQ' := Lib.hid (HQ.out.trans hF); clear HQ hF; have HQ := HQ'; clear HQ') | (go_at_call 14; refine (scopy_nil _).mono ?_; rintro e w' ⟨rfl, rfl⟩) | (go_at_call 27; refine (equal_nil _).mono ?_; rintro e w' ⟨rfl, rfl⟩))
    go_ret
    exact ⟨rfl, HQ.out⟩
  · have HN := Lib.hid (fun W => new_bad n W hn)
    by_cases h0 : 0 ≤ n
    · have h1 : ¬ n ≤ 4096 := fun h => hn ⟨h0, h⟩
      clear hn
      go_enter Tryd.func9, Tryd.ntmps9
      go_wp2_with (first | (go_at_call 10; refine (awake_calls w HT.out).mono ?_; rintro e w1 ⟨rfl, hN1⟩; have HQ := Lib.hid hN1; clear hN1) | (go_at_call 33; refine (HN.out _).mono ?_; rintro e w' ⟨rfl, rfl⟩) | (refine Kd.R_make (Kd.int .u64) (w0 := w) w.heap.size 48 rfl rfl 36 (.const (.int .i64 4097)) (.const (.int .i64 4097)) rfl 4097 rfl rfl Tryd.underlying36 (.int .u64 0) 8 (by kernel_rfl) rfl (by decide) (by decide) (0 : Int) (ok := fun _ => True) (okp := fun _ => False) rfl (fun _ h => h.elim) trivial (by omega) (by simp <;> omega) (HQ.out.below (fun _ _ h => h)) HQ.out.size ?_; intro v1 w9 ho hb hg hat; obtain ⟨A, c, rfl, hc, hC⟩ := Kd.R_reads ho; have HQ' := Lib.hid (Fr.of_below (S := fun _ => False) hb); clear HQ ho hb hg hat hC; have HQ := HQ'; clear HQ') | (go_at_call 26; refine (of_bad _ _ _).mono ?_; rintro e w' ⟨rfl, rfl⟩) | (go_at_call 24; refine (bits_nil_calls _).mono ?_; rintro e w' ⟨rfl, rfl⟩) | (go_at_call 19; refine ((swords_nil _)).mono ?_; rintro e w' ⟨rfl, rfl⟩) | (go_at_call 32; refine (get_nil i _).mono ?_; rintro e w' ⟨rfl, rfl⟩) | (go_at_call 28; refine (set_nil i _).mono ?_; rintro e w' ⟨rfl, hF⟩; have HQ' := Lib.hid (HQ.out.trans hF); clear HQ hF; have HQ := HQ'; clear HQ') | (go_at_call 41; refine (clear_nil i _).mono ?_; rintro e w' ⟨rfl, hF⟩; have HQ' := Lib.hid (HQ.out.trans hF); clear HQ hF; have HQ := HQ'; clear HQ') | (go_at_call 17; refine (fill_nil i j _).mono ?_; rintro e w' ⟨rfl, hF⟩; have HQ' := Lib.hid (HQ.out.trans hF); clear HQ hF; have HQ := HQ'; clear HQ') | (go_at_call 16; refine (wipe_nil i j _).mono ?_; rintro e w' ⟨rfl, hF⟩; have HQ' := Lib.hid (HQ.out.trans hF); clear HQ hF; have HQ := HQ'; clear HQ') | (go_at_call 15; refine (count_nil _).mono ?_; rintro e w' ⟨rfl, hF⟩; have HQ' := Lib.hid (HQ.out.trans hF); clear HQ hF; have HQ := HQ'; clear HQ') | (go_at_call 34; refine (next_nil i _ (HT.out.step HQ.out)).mono ?_; rintro e w' ⟨rfl, hF⟩; have HQ' := Lib.hid (HQ.out.trans hF); clear HQ hF; have HQ := HQ'; clear HQ') | (go_at_call 36; refine (prev_nil i _).mono ?_; rintro e w' ⟨rfl, rfl⟩) | (go_at_call 13; refine (rank_nil i _).mono ?_; rintro e w' ⟨rfl, hF⟩; have HQ' := Lib.hid (HQ.out.trans hF); clear HQ hF; have HQ := HQ'; clear HQ') | (go_at_call 39; refine (select_nil i _).mono ?_; rintro e w' ⟨rfl, rfl⟩) | (go_at_call 22; refine (all_nil _ (HT.out.step HQ.out)).mono ?_; rintro e w' ⟨A9, c9, rfl, hF⟩; have HQ' := Lib.hid (HQ.out.trans hF); clear HQ hF; have HQ := HQ'; clear HQ') | (go_at_call 14; refine (scopy_nil _).mono ?_; rintro e w' ⟨rfl, rfl⟩) | (go_at_call 27; refine (equal_nil _).mono ?_; rintro e w' ⟨rfl, rfl⟩))
      go_ret
      exact ⟨rfl, HQ.out⟩
    · clear hn
      go_enter Tryd.func9, Tryd.ntmps9
      go_wp2_with (first | (go_at_call 10; refine (awake_calls w HT.out).mono ?_; rintro e w1 ⟨rfl, hN1⟩; have HQ := Lib.hid hN1; clear hN1) | (go_at_call 33; refine (HN.out _).mono ?_; rintro e w' ⟨rfl, rfl⟩) | (refine Kd.R_make (Kd.int .u64) (w0 := w) w.heap.size 48 rfl rfl 36 (.const (.int .i64 4097)) (.const (.int .i64 4097)) rfl 4097 rfl rfl Tryd.underlying36 (.int .u64 0) 8 (by kernel_rfl) rfl (by decide) (by decide) (0 : Int) (ok := fun _ => True) (okp := fun _ => False) rfl (fun _ h => h.elim) trivial (by omega) (by simp <;> omega) (HQ.out.below (fun _ _ h => h)) HQ.out.size ?_; intro v1 w9 ho hb hg hat; obtain ⟨A, c, rfl, hc, hC⟩ := Kd.R_reads ho; have HQ' := Lib.hid (Fr.of_below (S := fun _ => False) hb); clear HQ ho hb hg hat hC; have HQ := HQ'; clear HQ') | (go_at_call 26; refine (of_bad _ _ _).mono ?_; rintro e w' ⟨rfl, rfl⟩) | (go_at_call 24; refine (bits_nil_calls _).mono ?_; rintro e w' ⟨rfl, rfl⟩) | (go_at_call 19; refine ((swords_nil _)).mono ?_; rintro e w' ⟨rfl, rfl⟩) | (go_at_call 32; refine (get_nil i _).mono ?_; rintro e w' ⟨rfl, rfl⟩) | (go_at_call 28; refine (set_nil i _).mono ?_; rintro e w' ⟨rfl, hF⟩; have HQ' := Lib.hid (HQ.out.trans hF); clear HQ hF; have HQ := HQ'; clear HQ') | (go_at_call 41; refine (clear_nil i _).mono ?_; rintro e w' ⟨rfl, hF⟩; have HQ' := Lib.hid (HQ.out.trans hF); clear HQ hF; have HQ := HQ'; clear HQ') | (go_at_call 17; refine (fill_nil i j _).mono ?_; rintro e w' ⟨rfl, hF⟩; have HQ' := Lib.hid (HQ.out.trans hF); clear HQ hF; have HQ := HQ'; clear HQ') | (go_at_call 16; refine (wipe_nil i j _).mono ?_; rintro e w' ⟨rfl, hF⟩; have HQ' := Lib.hid (HQ.out.trans hF); clear HQ hF; have HQ := HQ'; clear HQ') | (go_at_call 15; refine (count_nil _).mono ?_; rintro e w' ⟨rfl, hF⟩; have HQ' := Lib.hid (HQ.out.trans hF); clear HQ hF; have HQ := HQ'; clear HQ') | (go_at_call 34; refine (next_nil i _ (HT.out.step HQ.out)).mono ?_; rintro e w' ⟨rfl, hF⟩; have HQ' := Lib.hid (HQ.out.trans hF); clear HQ hF; have HQ := HQ'; clear HQ') | (go_at_call 36; refine (prev_nil i _).mono ?_; rintro e w' ⟨rfl, rfl⟩) | (go_at_call 13; refine (rank_nil i _).mono ?_; rintro e w' ⟨rfl, hF⟩; have HQ' := Lib.hid (HQ.out.trans hF); clear HQ hF; have HQ := HQ'; clear HQ') | (go_at_call 39; refine (select_nil i _).mono ?_; rintro e w' ⟨rfl, rfl⟩) | (go_at_call 22; refine (all_nil _ (HT.out.step HQ.out)).mono ?_; rintro e w' ⟨A9, c9, rfl, hF⟩; have HQ' := Lib.hid (HQ.out.trans hF); clear HQ hF; have HQ := HQ'; clear HQ') | (go_at_call 14; refine (scopy_nil _).mono ?_; rintro e w' ⟨rfl, rfl⟩) | (go_at_call 27; refine (equal_nil _).mono ?_; rintro e w' ⟨rfl, rfl⟩))
      go_ret
      exact ⟨rfl, HQ.out⟩

end Go.Proofs.YtacaeahijecfeaaDoor
