/-
  The contracts of the references' small functions on lists (stepstoneref01), in terms of plain functions on lists.
-/
import Derived.Test.YtacaeahijecfeaaDoorProg
import Derived.Test.YtacaeahijecfeaaDoorRefPure
import Derived.RegionTactic
import Derived.BigQuiet
import Derived.Deep.QuietTactic
namespace Go.Proofs.YtacaeahijecfeaaDoor
open Go.RowKit Go.Proofs.YtacaeahijecfeaaDoorW.PrintWords Go.Proofs.YtacaeahijecfeaaDoorW.PrintMore
attribute [local go_sem] max2_int min2_int max_two min_two
set_option linter.unusedVariables false
set_option linter.unusedSimpArgs false

theorem info_i64 : (Tryd.prog.info? 3).map (fun i => (i.zero, i.size, i.bytes)) = some (some (.int .i64 0), 1, 8) := by kernel_rfl
theorem info_u64 : (Tryd.prog.info? 48).map (fun i => (i.zero, i.size, i.bytes)) = some (some (.int .u64 0), 1, 8) := by kernel_rfl

set_option maxHeartbeats 400000 in
theorem has_calls (A : Option Addr) (c : Nat) (l : List Int) (n : Int) (w : World) (hr : Kd.C (Kd.int .i64) w A l.length l) (hn : l.length ≤ 140737488351232) :
    Calls Tryd.prog 31 #[.slice A l.length c, .int .i64 n] w fun e w' => e = .returned (.bool (hasL l n)) ∧ w = w' := by
  have HR := Lib.hid hr
  clear hr
  go_enter Tryd.func31, Tryd.ntmps31
  go_wp2
  go_loop [9] (fun i => ∃ k : Nat, k ≤ l.length ∧ i = .int .i64 k ∧ Hid (hasL (l.drop k) n = hasL l n)) (fun i => l.length - (intOf i).toNat)
  case atStart => exact ⟨0, Nat.zero_le _, rfl, Lib.hid rfl⟩
  case round =>
    obtain ⟨k, hk, rfl, HH⟩ := hrel
    by_cases hlt : k < l.length
    · obtain ⟨ad, hA, hcell⟩ := at_nat HR.out hlt
      cases hA
      have HD := Lib.hid (drop_get l k hlt)
      obtain ⟨x, hx⟩ : ∃ x, x = l[k] := ⟨_, rfl⟩
      rw [← hx] at hcell HD
      clear hx
      by_cases hxn : x = n
      · have t1 : (x == n) = true := by simp [hxn]
        have HX := Lib.hid hxn
        clear hxn
        go_wp2
        go_ret
        refine ⟨?_, rfl⟩
        rw [← HH.out, HD.out, HX.out]; simp [hasL]
      · have t1 : (x == n) = false := by simp [hxn]
        have HX := Lib.hid hxn
        clear hxn
        go_wp2
        go_round
        case rel => exact ⟨k + 1, by omega, by go_num, Lib.hid (by rw [← HH.out, HD.out, hasL_cons]; simp [Ne.symm HX.out])⟩
        case measure => simp [intOf]; omega
    · go_wp2
      go_ret
      refine ⟨?_, rfl⟩
      rw [← HH.out, List.drop_eq_nil_of_le (by omega)]; rfl
set_option maxHeartbeats 400000 in
theorem next_calls (A : Option Addr) (c : Nat) (l : List Int) (n : Int) (w : World) (hr : Kd.C (Kd.int .i64) w A l.length l) (hn : l.length ≤ 140737488351232) :
    Calls Tryd.prog 35 #[.slice A l.length c, .int .i64 n] w fun e w' => e = .returned (.int .i64 (nextL l n)) ∧ w = w' := by
  have HR := Lib.hid hr
  clear hr
  go_enter Tryd.func35, Tryd.ntmps35
  go_wp2
  go_loop [9] (fun i => ∃ k : Nat, k ≤ l.length ∧ i = .int .i64 k ∧ Hid (nextL (l.drop k) n = nextL l n)) (fun i => l.length - (intOf i).toNat)
  case atStart => exact ⟨0, Nat.zero_le _, rfl, Lib.hid rfl⟩
  case round =>
    obtain ⟨k, hk, rfl, HH⟩ := hrel
    by_cases hlt : k < l.length
    · obtain ⟨ad, hA, hcell⟩ := at_nat HR.out hlt
      cases hA
      have HD := Lib.hid (drop_get l k hlt)
      obtain ⟨x, hx⟩ : ∃ x, x = l[k] := ⟨_, rfl⟩
      rw [← hx] at hcell HD
      clear hx
      by_cases hxn : n ≤ x
      · go_wp2
        go_ret
        refine ⟨?_, rfl⟩
        rw [← HH.out, HD.out]; simp only [nextL]; rw [if_pos hxn]; rfl
      · go_wp2
        go_round
        case rel => exact ⟨k + 1, by omega, by go_num, Lib.hid (by rw [← HH.out, HD.out]; simp only [nextL]; rw [if_neg hxn])⟩
        case measure => simp [intOf]; omega
    · go_wp2
      go_ret
      refine ⟨?_, rfl⟩
      rw [← HH.out, List.drop_eq_nil_of_le (by omega)]; rfl
set_option maxHeartbeats 400000 in
theorem prev_calls (A : Option Addr) (c : Nat) (l : List Int) (n : Int) (w : World) (hr : Kd.C (Kd.int .i64) w A l.length l) (hn : l.length ≤ 140737488351232) :
    Calls Tryd.prog 37 #[.slice A l.length c, .int .i64 n] w fun e w' => e = .returned (.int .i64 (prevL l n)) ∧ w = w' := by
  have HR := Lib.hid hr
  clear hr
  go_enter Tryd.func37, Tryd.ntmps37
  go_wp2
  go_loop [5, 10] (fun b i => ∃ (k : Nat) (q : Int), k ≤ l.length ∧ i = .int .i64 k ∧ b = .int .i64 q ∧ Hid (prevF (l.drop k) n q = prevL l n)) (fun _ i => l.length - (intOf i).toNat)
  case atStart => exact ⟨0, -1, Nat.zero_le _, rfl, rfl, Lib.hid rfl⟩
  case round =>
    obtain ⟨k, q, hk, rfl, rfl, HH⟩ := hrel
    by_cases hlt : k < l.length
    · obtain ⟨ad, hA, hcell⟩ := at_nat HR.out hlt
      cases hA
      have HD := Lib.hid (drop_get l k hlt)
      obtain ⟨x, hx⟩ : ∃ x, x = l[k] := ⟨_, rfl⟩
      rw [← hx] at hcell HD
      clear hx
      by_cases hxn : x ≤ n
      · go_wp2
        go_round
        case rel => exact ⟨k + 1, x, by omega, by go_num, rfl, Lib.hid (by rw [← HH.out, HD.out]; simp only [prevF]; rw [if_pos hxn])⟩
        case measure => simp [intOf]; omega
      · go_wp2
        go_round
        case rel => exact ⟨k + 1, q, by omega, by go_num, rfl, Lib.hid (by rw [← HH.out, HD.out]; simp only [prevF]; rw [if_neg hxn])⟩
        case measure => simp [intOf]; omega
    · go_wp2
      go_ret
      refine ⟨?_, rfl⟩
      rw [← HH.out, List.drop_eq_nil_of_le (by omega)]; rfl
set_option maxHeartbeats 400000 in
theorem rank_calls (A : Option Addr) (c : Nat) (l : List Int) (n : Int) (w : World) (hr : Kd.C (Kd.int .i64) w A l.length l) (hn : l.length ≤ 140737488351232) :
    Calls Tryd.prog 38 #[.slice A l.length c, .int .i64 n] w fun e w' => e = .returned (.int .i64 (rankL l n)) ∧ w = w' := by
  have HR := Lib.hid hr
  clear hr
  go_enter Tryd.func38, Tryd.ntmps38
  go_wp2
  go_loop [5, 10] (fun b i => ∃ (k q : Nat), k ≤ l.length ∧ i = .int .i64 k ∧ b = .int .i64 q ∧ q ≤ k ∧ Hid (q = rankL (l.take k) n)) (fun _ i => l.length - (intOf i).toNat)
  case atStart => exact ⟨0, 0, Nat.zero_le _, rfl, rfl, Nat.le_refl _, Lib.hid rfl⟩
  case round =>
    obtain ⟨k, q, hk, rfl, rfl, hq, HH⟩ := hrel
    by_cases hlt : k < l.length
    · obtain ⟨ad, hA, hcell⟩ := at_nat HR.out hlt
      cases hA
      have HD := Lib.hid (List.take_succ_eq_append_getElem hlt)
      obtain ⟨x, hx⟩ : ∃ x, x = l[k] := ⟨_, rfl⟩
      rw [← hx] at hcell HD
      clear hx
      by_cases hxn : x < n
      · go_wp2
        go_round
        case rel => exact ⟨k + 1, q + 1, by omega, by go_num, by go_num, by omega, Lib.hid (by rw [HD.out, rankL_snoc, ← HH.out, if_pos hxn])⟩
        case measure => simp [intOf]; omega
      · go_wp2
        go_round
        case rel => exact ⟨k + 1, q, by omega, by go_num, rfl, by omega, Lib.hid (by rw [HD.out, rankL_snoc, ← HH.out, if_neg hxn]; rfl)⟩
        case measure => simp [intOf]; omega
    · go_wp2
      go_ret
      refine ⟨?_, rfl⟩
      show Ending.returned (.int .i64 (q : Int)) = _
      rw [HH.out, List.take_of_length_le (by omega)]
set_option maxHeartbeats 400000 in
theorem select_calls (A : Option Addr) (c : Nat) (l : List Int) (n : Int) (w : World) (hr : Kd.C (Kd.int .i64) w A l.length l) (hn : l.length ≤ 140737488351232) :
    Calls Tryd.prog 40 #[.slice A l.length c, .int .i64 n] w fun e w' => e = .returned (.int .i64 (selectL l n)) ∧ w = w' := by
  have HR := Lib.hid hr
  clear hr
  by_cases h0 : n < 0
  · have HS : Hid (selectL l n = -1) := Lib.hid (by simp [selectL, h0])
    go_enter Tryd.func40, Tryd.ntmps40
    go_wp2
    go_ret
    exact ⟨by rw [HS.out]; rfl, rfl⟩
  · obtain ⟨m, rfl⟩ := Int.eq_ofNat_of_zero_le (Int.not_lt.1 h0)
    clear h0
    by_cases h1 : m < l.length
    · have HS : Hid (selectL l (m : Int) = l[m]) := Lib.hid (by simp [selectL, List.getD, h1]; omega)
      obtain ⟨ad, hA, hcell⟩ := at_nat HR.out h1
      cases hA
      obtain ⟨x, hx⟩ : ∃ x, x = l[m] := ⟨_, rfl⟩
      rw [← hx] at hcell HS
      clear hx
      go_enter Tryd.func40, Tryd.ntmps40
      go_wp2
      go_ret
      exact ⟨by rw [HS.out]; rfl, rfl⟩
    · have HS : Hid (selectL l (m : Int) = -1) := Lib.hid (by simp only [selectL]; rw [if_neg (by omega)]; simp [List.getD, List.getElem?_eq_none (Nat.le_of_not_lt h1)])
      go_enter Tryd.func40, Tryd.ntmps40
      go_wp2
      go_ret
      exact ⟨by rw [HS.out]; rfl, rfl⟩
set_option maxHeartbeats 400000 in
theorem clamp_calls (n m : Int) (w : World) :
    Calls Tryd.prog 12 #[.int .i64 n, .int .i64 m] w fun e w' => e = .returned (.int .i64 (clampL n m)) ∧ w = w' := by
  go_enter Tryd.func12, Tryd.ntmps12
  go_wp2
  all_goals go_ret
  all_goals refine ⟨ret_int ?_, rfl⟩
  all_goals (simp [clampL]; omega)
set_option maxHeartbeats 1000000 in
theorem drop_calls (A : Option Addr) (c : Nat) (l : List Int) (n : Int) (w : World) (hr : Kd.C (Kd.int .i64) w A l.length l) (hn : l.length ≤ 17592186044000) :
    Calls Tryd.prog 71 #[.slice A l.length c, .int .i64 n] w fun e w' => ∃ v, e = .returned v ∧ Kd.R (Kd.int .i64) 3 w' w.heap.size (fun _ => True) v (dropL l n) ∧ Below w.heap.size w w' := by
  have HR := Lib.hid hr
  clear hr
  go_enter Tryd.func71, Tryd.ntmps71
  go_wp2
  go_loopw [5, 10] (fun b i wr => ∃ (k : Nat) (acc : List Int), k ≤ l.length ∧ i = .int .i64 k ∧ acc.length ≤ k ∧ Hid (Kd.R (Kd.int .i64) 3 wr w.heap.size (fun _ => True) b acc) ∧ Hid (Below w.heap.size w wr) ∧ Hid (acc = dropL (l.take k) n)) (fun _ i _ => l.length - (intOf i).toNat)
  case atStart => exact ⟨0, [], Nat.zero_le _, rfl, Nat.le_refl _, Lib.hid (Kd.R_nil _ _ _ _ _), Lib.hid (Below.refl _ _), Lib.hid rfl⟩
  case round =>
    obtain ⟨k, acc, hk, rfl, hac, HO, HB, HH⟩ := hrel
    by_cases hlt : k < l.length
    · obtain ⟨ad, hA, hcell⟩ := at_nat HR.out hlt
      cases hA
      have hcell := (HB.out.cell (World.block_lt_of_cell? w _ hcell)).trans hcell
      have HD := Lib.hid (List.take_succ_eq_append_getElem hlt)
      obtain ⟨x, hx⟩ : ∃ x, x = l[k] := ⟨_, rfl⟩
      rw [← hx] at hcell HD
      clear hx
      by_cases hxn : x = n
      · have t1 : (x == n) = true := by simp [hxn]
        have t2 : (x != n) = false := by simp [hxn]
        have HX := Lib.hid hxn
        clear hxn
        go_wp2
        go_roundw
        case rel => exact ⟨k + 1, acc, by omega, by go_num, by omega, HO, HB, Lib.hid (by rw [HD.out, dropL_snoc, if_pos HX.out, List.append_nil]; exact HH.out)⟩
        case measure => simp [intOf]; omega
      · have t1 : (x == n) = false := by simp [hxn]
        have t2 : (x != n) = true := by simp [hxn]
        have HX := Lib.hid hxn
        clear hxn
        go_wp2_with (at_builtin; refine Kd.R_append (Kd.int .i64) (w0 := w) w.heap.size rfl (.tmp 17) (.tmp 19) 25 3 (.int .i64 0) 8 rfl Tryd.underlying25 info_i64 rfl (by decide) (by omega) _ acc x [.int .i64 x] (fun _ => True) (fun _ => False) rfl rfl rfl (fun _ hk => hk.elim) (fun _ _ => trivial) HO.out HB.out HB.out.size (by (try simp only [List.length_append, List.length_cons, List.length_nil]); omega) ?_; intro v1 w1 ho hb hg hat; have HO' := Lib.hid ho; have HB' := Lib.hid hb; clear ho hb hg hat HO HB; have HO := HO'; have HB := HB'; clear HO' HB')
        go_roundw
        case rel => exact ⟨k + 1, acc ++ [x], by omega, by go_num, by simp; omega, HO, HB, Lib.hid (by rw [HD.out, dropL_snoc, if_neg HX.out, HH.out])⟩
        case measure => simp [intOf]; omega
    · go_wp2
      go_ret
      refine ⟨_, rfl, ?_, HB.out⟩
      have e := HH.out
      rw [List.take_of_length_le (by omega)] at e
      rw [← e]; exact HO.out
set_option maxHeartbeats 1000000 in
theorem ints_calls (A : Option Addr) (c : Nat) (l : List Int) (m : Nat) (w : World) (hr : Kd.C (Kd.int .i64) w A l.length l) (hn : l.length ≤ 140737488351232) (hm : m ≤ 100000000) :
    Calls Tryd.prog 23 #[.slice A l.length c, .int .i64 m] w fun e w' => ∃ v, e = .returned v ∧ Kd.R (Kd.int .i64) 3 w' w.heap.size (fun _ => True) v (l.take m) ∧ Below w.heap.size w w' := by
  have HR := Lib.hid hr
  clear hr
  go_enter Tryd.func23, Tryd.ntmps23
  go_wp2
  go_loopw [5, 10] (fun b i wr => ∃ (k : Nat) (acc : List Int), k ≤ l.length ∧ i = .int .i64 k ∧ acc.length ≤ k ∧ acc.length ≤ m ∧ Hid (Kd.R (Kd.int .i64) 3 wr w.heap.size (fun _ => True) b acc) ∧ Hid (Below w.heap.size w wr) ∧ Hid (acc = (l.take k).take m)) (fun _ i _ => l.length - (intOf i).toNat)
  case atStart => exact ⟨0, [], Nat.zero_le _, rfl, Nat.le_refl _, Nat.zero_le _, Lib.hid (Kd.R_nil _ _ _ _ _), Lib.hid (Below.refl _ _), Lib.hid (by simp)⟩
  case round =>
    obtain ⟨k, acc, hk, rfl, hac, ham, HO, HB, HH⟩ := hrel
    by_cases hlt : k < l.length
    · obtain ⟨ad, hA, hcell⟩ := at_nat HR.out hlt
      cases hA
      have hcell := (HB.out.cell (World.block_lt_of_cell? w _ hcell)).trans hcell
      obtain ⟨x, hx⟩ : ∃ x, x = l[k] := ⟨_, rfl⟩
      rw [← hx] at hcell
      have HX := Lib.hid hx
      clear hx
      by_cases hxn : k < m
      · go_wp2_with (at_builtin; refine Kd.R_append (Kd.int .i64) (w0 := w) w.heap.size rfl (.tmp 18) (.tmp 20) 25 3 (.int .i64 0) 8 rfl Tryd.underlying25 info_i64 rfl (by decide) (by omega) _ acc x [.int .i64 x] (fun _ => True) (fun _ => False) rfl rfl rfl (fun _ hk => hk.elim) (fun _ _ => trivial) HO.out HB.out HB.out.size (by (try simp only [List.length_append, List.length_cons, List.length_nil]); omega) ?_; intro v1 w1 ho hb hg hat; have HO' := Lib.hid ho; have HB' := Lib.hid hb; clear ho hb hg hat HO HB; have HO := HO'; have HB := HB'; clear HO' HB')
        go_roundw
        case rel => exact ⟨k + 1, acc ++ [x], by omega, by go_num, by simp; omega, by simp; omega, HO, HB, Lib.hid (by rw [take_step_lt hlt hxn, HH.out, HX.out])⟩
        case measure => simp [intOf]; omega
      · go_wp2
        go_roundw
        case rel => exact ⟨k + 1, acc, by omega, by go_num, by omega, ham, HO, HB, Lib.hid (by rw [take_step_ge (by omega), HH.out])⟩
        case measure => simp [intOf]; omega
    · go_wp2
      go_ret
      refine ⟨_, rfl, ?_, HB.out⟩
      have e := HH.out
      rw [List.take_of_length_le (i := k) (by omega)] at e
      rw [← e]; exact HO.out
set_option maxHeartbeats 1000000 in
theorem words_calls (A : Option Addr) (c : Nat) (l : List Int) (m : Nat) (w : World) (hr : Kd.C (Kd.int .u64) w A l.length l) (hn : l.length ≤ 140737488351232) (hm : m ≤ 100000000) :
    Calls Tryd.prog 25 #[.slice A l.length c, .int .i64 m] w fun e w' => ∃ v, e = .returned v ∧ Kd.R (Kd.int .u64) 48 w' w.heap.size (fun _ => True) v (l.take m) ∧ Below w.heap.size w w' := by
  have HR := Lib.hid hr
  clear hr
  go_enter Tryd.func25, Tryd.ntmps25
  go_wp2
  go_loopw [5, 10] (fun b i wr => ∃ (k : Nat) (acc : List Int), k ≤ l.length ∧ i = .int .i64 k ∧ acc.length ≤ k ∧ acc.length ≤ m ∧ Hid (Kd.R (Kd.int .u64) 48 wr w.heap.size (fun _ => True) b acc) ∧ Hid (Below w.heap.size w wr) ∧ Hid (acc = (l.take k).take m)) (fun _ i _ => l.length - (intOf i).toNat)
  case atStart => exact ⟨0, [], Nat.zero_le _, rfl, Nat.le_refl _, Nat.zero_le _, Lib.hid (Kd.R_nil _ _ _ _ _), Lib.hid (Below.refl _ _), Lib.hid (by simp)⟩
  case round =>
    obtain ⟨k, acc, hk, rfl, hac, ham, HO, HB, HH⟩ := hrel
    by_cases hlt : k < l.length
    · obtain ⟨ad, hA, hcell⟩ := at_nat HR.out hlt
      cases hA
      have hcell := (HB.out.cell (World.block_lt_of_cell? w _ hcell)).trans hcell
      obtain ⟨x, hx⟩ : ∃ x, x = l[k] := ⟨_, rfl⟩
      rw [← hx] at hcell
      have HX := Lib.hid hx
      clear hx
      by_cases hxn : k < m
      · go_wp2_with (at_builtin; refine Kd.R_append (Kd.int .u64) (w0 := w) w.heap.size rfl (.tmp 18) (.tmp 20) 36 48 (.int .u64 0) 8 rfl Tryd.underlying36 info_u64 rfl (by decide) (by omega) _ acc x [.int .u64 x] (fun _ => True) (fun _ => False) rfl rfl rfl (fun _ hk => hk.elim) (fun _ _ => trivial) HO.out HB.out HB.out.size (by (try simp only [List.length_append, List.length_cons, List.length_nil]); omega) ?_; intro v1 w1 ho hb hg hat; have HO' := Lib.hid ho; have HB' := Lib.hid hb; clear ho hb hg hat HO HB; have HO := HO'; have HB := HB'; clear HO' HB')
        go_roundw
        case rel => exact ⟨k + 1, acc ++ [x], by omega, by go_num, by simp; omega, by simp; omega, HO, HB, Lib.hid (by rw [take_step_lt hlt hxn, HH.out, HX.out])⟩
        case measure => simp [intOf]; omega
      · go_wp2
        go_roundw
        case rel => exact ⟨k + 1, acc, by omega, by go_num, by omega, ham, HO, HB, Lib.hid (by rw [take_step_ge (by omega), HH.out])⟩
        case measure => simp [intOf]; omega
    · go_wp2
      go_ret
      refine ⟨_, rfl, ?_, HB.out⟩
      have e := HH.out
      rw [List.take_of_length_le (i := k) (by omega)] at e
      rw [← e]; exact HO.out
set_option maxHeartbeats 1000000 in
theorem same_calls (A B : Option Addr) (c d : Nat) (l m : List Int) (w : World) (hr : Kd.C (Kd.int .i64) w A l.length l) (hr2 : Kd.C (Kd.int .i64) w B m.length m) (hn : l.length ≤ 140737488351232) :
    Calls Tryd.prog 21 #[.slice A l.length c, .slice B m.length d] w fun e w' => e = .returned (.bool (decide (l = m))) ∧ Nw w w' := by
  have HR := Lib.hid hr
  have HR2 := Lib.hid hr2
  clear hr hr2
  by_cases hlen : l.length = m.length
  · have t1 : ((l.length : Int) == (m.length : Int)) = true := by simp [hlen]
    have t2 : ((l.length : Int) != (m.length : Int)) = false := by simp [hlen]
    have hl1 : l.length ≤ m.length := by omega
    have HL := Lib.hid hlen
    clear hlen
    go_enter Tryd.func21, Tryd.ntmps21
    go_wp2
    go_loopw [13] (fun i wr => ∃ k : Nat, k ≤ l.length ∧ i = .int .i64 k ∧ Hid (l.take k = m.take k) ∧ Hid (Nw w wr)) (fun i _ => l.length - (intOf i).toNat)
    case atStart => exact ⟨0, Nat.zero_le _, rfl, Lib.hid rfl, Lib.hid (Fr.refl _ _)⟩
    case round =>
      obtain ⟨k, hk, rfl, HH, HF⟩ := hrel
      by_cases hlt : k < l.length
      · have hlt2 : k < m.length := by omega
        obtain ⟨ad, hA, hcell⟩ := at_nat HR.out hlt
        cases hA
        obtain ⟨ae, hB, hcell2⟩ := at_nat HR2.out hlt2
        cases hB
        have hcell := HF.out.cell hcell (fun h => h)
        have hcell2 := HF.out.cell hcell2 (fun h => h)
        have HD := Lib.hid (List.take_succ_eq_append_getElem hlt)
        have HD2 := Lib.hid (List.take_succ_eq_append_getElem hlt2)
        obtain ⟨x, hx⟩ : ∃ x, x = l[k] := ⟨_, rfl⟩
        obtain ⟨y, hy⟩ : ∃ y, y = m[k] := ⟨_, rfl⟩
        rw [← hx] at hcell HD
        rw [← hy] at hcell2 HD2
        have i1 : (0 : Int) ≤ (k : Int) := by omega
        have i2 : (k : Int) < (l.length : Int) := by omega
        have i3 : (k : Int) < (m.length : Int) := by omega
        have HY := Lib.hid hy
        have HX := Lib.hid hx
        clear hx hy
        by_cases hxy : x = y
        · have t3 : (x == y) = true := by simp [hxy]
          have t4 : (x != y) = false := by simp [hxy]
          have HXY := Lib.hid hxy
          clear hxy
          go_wp2
          go_quiet (fail)
          go_wp2
          go_roundw
          case rel => exact ⟨k + 1, by omega, by go_num, Lib.hid (by rw [HD.out, HD2.out, HH.out, HXY.out]), Lib.hid (HF.out.drewN _)⟩
          case measure => simp [intOf]; omega
        · have t3 : (x == y) = false := by simp [hxy]
          have t4 : (x != y) = true := by simp [hxy]
          have HXY := Lib.hid hxy
          clear hxy
          go_wp2
          go_quiet (fail)
          go_wp2
          go_ret
          refine ⟨?_, HF.out.drewN _⟩
          have : ¬ l = m := fun e => HXY.out (by rw [HX.out, HY.out]; subst e; rfl)
          show Ending.returned (.bool false) = _
          rw [decide_eq_false this]
      · go_wp2
        go_ret
        refine ⟨?_, HF.out⟩
        have e := HH.out
        rw [List.take_of_length_le (by omega), List.take_of_length_le (by have := HL.out; omega)] at e
        show Ending.returned (.bool true) = _
        rw [decide_eq_true e]
  · have t1 : ((l.length : Int) == (m.length : Int)) = false := by simp; omega
    have t2 : ((l.length : Int) != (m.length : Int)) = true := by rw [bne_iff_ne]; omega
    have HL := Lib.hid hlen
    clear hlen
    go_enter Tryd.func21, Tryd.ntmps21
    go_wp2
    go_ret
    refine ⟨?_, Fr.refl _ _⟩
    have : ¬ l = m := fun e => HL.out (by rw [e])
    show Ending.returned (.bool false) = _
    rw [decide_eq_false this]
set_option maxHeartbeats 1000000 in
theorem samekeys_calls (A B : Option Addr) (c d : Nat) (l m : List Int) (w : World) (hr : Kd.C (Kd.int .u64) w A l.length l) (hr2 : Kd.C (Kd.int .u64) w B m.length m) (hn : l.length ≤ 140737488351232) :
    Calls Tryd.prog 18 #[.slice A l.length c, .slice B m.length d] w fun e w' => e = .returned (.bool (decide (l = m))) ∧ Nw w w' := by
  have HR := Lib.hid hr
  have HR2 := Lib.hid hr2
  clear hr hr2
  by_cases hlen : l.length = m.length
  · have t1 : ((l.length : Int) == (m.length : Int)) = true := by simp [hlen]
    have t2 : ((l.length : Int) != (m.length : Int)) = false := by simp [hlen]
    have hl1 : l.length ≤ m.length := by omega
    have HL := Lib.hid hlen
    clear hlen
    go_enter Tryd.func18, Tryd.ntmps18
    go_wp2
    go_loopw [13] (fun i wr => ∃ k : Nat, k ≤ l.length ∧ i = .int .i64 k ∧ Hid (l.take k = m.take k) ∧ Hid (Nw w wr)) (fun i _ => l.length - (intOf i).toNat)
    case atStart => exact ⟨0, Nat.zero_le _, rfl, Lib.hid rfl, Lib.hid (Fr.refl _ _)⟩
    case round =>
      obtain ⟨k, hk, rfl, HH, HF⟩ := hrel
      by_cases hlt : k < l.length
      · have hlt2 : k < m.length := by omega
        obtain ⟨ad, hA, hcell⟩ := at_nat HR.out hlt
        cases hA
        obtain ⟨ae, hB, hcell2⟩ := at_nat HR2.out hlt2
        cases hB
        have hcell := HF.out.cell hcell (fun h => h)
        have hcell2 := HF.out.cell hcell2 (fun h => h)
        have HD := Lib.hid (List.take_succ_eq_append_getElem hlt)
        have HD2 := Lib.hid (List.take_succ_eq_append_getElem hlt2)
        obtain ⟨x, hx⟩ : ∃ x, x = l[k] := ⟨_, rfl⟩
        obtain ⟨y, hy⟩ : ∃ y, y = m[k] := ⟨_, rfl⟩
        rw [← hx] at hcell HD
        rw [← hy] at hcell2 HD2
        have i1 : (0 : Int) ≤ (k : Int) := by omega
        have i2 : (k : Int) < (l.length : Int) := by omega
        have i3 : (k : Int) < (m.length : Int) := by omega
        have HY := Lib.hid hy
        have HX := Lib.hid hx
        clear hx hy
        by_cases hxy : x = y
        · have t3 : (x == y) = true := by simp [hxy]
          have t4 : (x != y) = false := by simp [hxy]
          have HXY := Lib.hid hxy
          clear hxy
          go_wp2
          go_quiet (fail)
          go_wp2
          go_roundw
          case rel => exact ⟨k + 1, by omega, by go_num, Lib.hid (by rw [HD.out, HD2.out, HH.out, HXY.out]), Lib.hid (HF.out.drewN _)⟩
          case measure => simp [intOf]; omega
        · have t3 : (x == y) = false := by simp [hxy]
          have t4 : (x != y) = true := by simp [hxy]
          have HXY := Lib.hid hxy
          clear hxy
          go_wp2
          go_quiet (fail)
          go_wp2
          go_ret
          refine ⟨?_, HF.out.drewN _⟩
          have : ¬ l = m := fun e => HXY.out (by rw [HX.out, HY.out]; subst e; rfl)
          show Ending.returned (.bool false) = _
          rw [decide_eq_false this]
      · go_wp2
        go_ret
        refine ⟨?_, HF.out⟩
        have e := HH.out
        rw [List.take_of_length_le (by omega), List.take_of_length_le (by have := HL.out; omega)] at e
        show Ending.returned (.bool true) = _
        rw [decide_eq_true e]
  · have t1 : ((l.length : Int) == (m.length : Int)) = false := by simp; omega
    have t2 : ((l.length : Int) != (m.length : Int)) = true := by rw [bne_iff_ne]; omega
    have HL := Lib.hid hlen
    clear hlen
    go_enter Tryd.func18, Tryd.ntmps18
    go_wp2
    go_ret
    refine ⟨?_, Fr.refl _ _⟩
    have : ¬ l = m := fun e => HL.out (by rw [e])
    show Ending.returned (.bool false) = _
    rw [decide_eq_false this]
set_option maxHeartbeats 2000000 in
theorem add_calls (A : Option Addr) (c : Nat) (l : List Int) (n : Int) (w : World) (hr : Kd.C (Kd.int .i64) w A l.length l) (hn : l.length ≤ 8796093000000) :
    Calls Tryd.prog 70 #[.slice A l.length c, .int .i64 n] w fun e w' => ∃ v, e = .returned v ∧ Kd.R (Kd.int .i64) 3 w' w.heap.size (fun _ => True) v (addL l n) ∧ Below w.heap.size w w' := by
  have HR := Lib.hid hr
  clear hr
  go_enter Tryd.func70, Tryd.ntmps70
  go_wp2
  go_loopw [5, 6, 11] (fun b d i wr => ∃ (k : Nat) (acc : List Int) (done : Bool), k ≤ l.length ∧ i = .int .i64 k ∧ d = .bool done ∧ acc.length ≤ k + 1 ∧ (done = false → acc.length ≤ k) ∧ Hid (Kd.R (Kd.int .i64) 3 wr w.heap.size (fun _ => True) b acc) ∧ Hid (Below w.heap.size w wr) ∧ Hid (addF (l.drop k) n acc done = addL l n)) (fun _ _ i _ => l.length - (intOf i).toNat)
  case atStart => exact ⟨0, [], false, Nat.zero_le _, rfl, rfl, Nat.zero_le _, fun _ => Nat.zero_le _, Lib.hid (Kd.R_nil _ _ _ _ _), Lib.hid (Below.refl _ _), Lib.hid (by rw [addF_false]; rfl)⟩
  case round =>
    obtain ⟨k, acc, done, hk, rfl, rfl, hac, had, HO, HB, HH⟩ := hrel
    by_cases hlt : k < l.length
    · obtain ⟨ad, hA, hcell⟩ := at_nat HR.out hlt
      cases hA
      have hcell := (HB.out.cell (World.block_lt_of_cell? w _ hcell)).trans hcell
      have HD := Lib.hid (drop_get l k hlt)
      obtain ⟨x, hx⟩ : ∃ x, x = l[k] := ⟨_, rfl⟩
      rw [← hx] at hcell HD
      clear hx
      have hh := HH.out
      rw [HD.out] at hh
      clear HH
      cases done with
      | true =>
        clear had
        by_cases hxn : x = n
        · have t1 : (x == n) = true := by simp [hxn]
          have t2 : (x != n) = false := by simp [hxn]
          simp only [addF] at hh
          rw [if_pos hxn] at hh
          have HH := Lib.hid hh
          clear hxn hh
          go_wp2
          go_roundw
          case rel => exact ⟨k + 1, acc, true, by omega, by go_num, rfl, by omega, fun h => (by cases h), HO, HB, HH⟩
          case measure => simp [intOf]; omega
        · have t1 : (x == n) = false := by simp [hxn]
          have t2 : (x != n) = true := by simp [hxn]
          simp only [addF] at hh
          rw [if_neg hxn] at hh
          have HH := Lib.hid hh
          clear hxn hh
          go_wp2_with (at_builtin; refine Kd.R_append (Kd.int .i64) (w0 := w) w.heap.size rfl (.tmp 29) (.tmp 31) 25 3 (.int .i64 0) 8 rfl Tryd.underlying25 info_i64 rfl (by decide) (by omega) _ acc x [.int .i64 x] (fun _ => True) (fun _ => False) rfl rfl rfl (fun _ hk => hk.elim) (fun _ _ => trivial) HO.out HB.out HB.out.size (by (try simp only [List.length_append, List.length_cons, List.length_nil]); omega) ?_; intro v1 w1 ho hb hg hat; have HO' := Lib.hid ho; have HB' := Lib.hid hb; clear ho hb hg hat HO HB; have HO := HO'; have HB := HB'; clear HO' HB')
          go_roundw
          case rel => exact ⟨k + 1, acc ++ [x], true, by omega, by go_num, rfl, by simp; omega, fun h => (by cases h), HO, HB, HH⟩
          case measure => simp [intOf]; omega
      | false =>
        have had' := had rfl
        clear had
        by_cases hge : n ≤ x
        · by_cases hxn : x = n
          · have t1 : (x == n) = true := by simp [hxn]
            have t2 : (x != n) = false := by simp [hxn]
            simp only [addF] at hh
            rw [if_pos hge, if_pos hxn] at hh
            have HH := Lib.hid hh
            clear hxn hh
            go_wp2_with (at_builtin; refine Kd.R_append (Kd.int .i64) (w0 := w) w.heap.size rfl (.tmp 22) (.tmp 24) 25 3 (.int .i64 0) 8 rfl Tryd.underlying25 info_i64 rfl (by decide) (by omega) _ acc n [.int .i64 n] (fun _ => True) (fun _ => False) rfl rfl rfl (fun _ hk => hk.elim) (fun _ _ => trivial) HO.out HB.out HB.out.size (by (try simp only [List.length_append, List.length_cons, List.length_nil]); omega) ?_; intro v1 w1 ho hb hg hat; have HO' := Lib.hid ho; have HB' := Lib.hid hb; clear ho hb hg hat HO HB; have HO := HO'; have HB := HB'; clear HO' HB')
            go_roundw
            case rel => exact ⟨k + 1, acc ++ [n], true, by omega, by go_num, rfl, by simp; omega, fun h => (by cases h), HO, HB, HH⟩
            case measure => simp [intOf]; omega
          · have t1 : (x == n) = false := by simp [hxn]
            have t2 : (x != n) = true := by simp [hxn]
            simp only [addF] at hh
            rw [if_pos hge, if_neg hxn] at hh
            have HH := Lib.hid hh
            clear hxn hh
            have tok : True := trivial
            go_wp2_with (first | (have _t := tok; (at_builtin; refine Kd.R_append (Kd.int .i64) (w0 := w) w.heap.size rfl (.tmp 22) (.tmp 24) 25 3 (.int .i64 0) 8 rfl Tryd.underlying25 info_i64 rfl (by decide) (by omega) _ acc n [.int .i64 n] (fun _ => True) (fun _ => False) rfl rfl rfl (fun _ hk => hk.elim) (fun _ _ => trivial) HO.out HB.out HB.out.size (by (try simp only [List.length_append, List.length_cons, List.length_nil]); omega) ?_; intro v1 w1 ho hb hg hat; have HO' := Lib.hid ho; have HB' := Lib.hid hb; clear ho hb hg hat HO HB; have HO := HO'; have HB := HB'; clear HO' HB'); clear tok; have tok2 : True := trivial) | (have _t := tok2; (at_builtin; refine Kd.R_append (Kd.int .i64) (w0 := w) w.heap.size rfl (.tmp 29) (.tmp 31) 25 3 (.int .i64 0) 8 rfl Tryd.underlying25 info_i64 rfl (by decide) (by omega) _ (acc ++ [n]) x [.int .i64 x] (fun _ => True) (fun _ => False) rfl rfl rfl (fun _ hk => hk.elim) (fun _ _ => trivial) HO.out HB.out HB.out.size (by (try simp only [List.length_append, List.length_cons, List.length_nil]); omega) ?_; intro v1 w1 ho hb hg hat; have HO' := Lib.hid ho; have HB' := Lib.hid hb; clear ho hb hg hat HO HB; have HO := HO'; have HB := HB'; clear HO' HB'); clear tok2))
            go_roundw
            case rel => exact ⟨k + 1, acc ++ [n] ++ [x], true, by omega, by go_num, rfl, by simp; omega, fun h => (by cases h), HO, HB, HH⟩
            case measure => simp [intOf]; omega
        · have t1 : (x == n) = false := by simp; omega
          have t2 : (x != n) = true := by rw [bne_iff_ne]; omega
          simp only [addF] at hh
          rw [if_neg hge] at hh
          have HH := Lib.hid hh
          clear hh
          go_wp2_with (at_builtin; refine Kd.R_append (Kd.int .i64) (w0 := w) w.heap.size rfl (.tmp 29) (.tmp 31) 25 3 (.int .i64 0) 8 rfl Tryd.underlying25 info_i64 rfl (by decide) (by omega) _ acc x [.int .i64 x] (fun _ => True) (fun _ => False) rfl rfl rfl (fun _ hk => hk.elim) (fun _ _ => trivial) HO.out HB.out HB.out.size (by (try simp only [List.length_append, List.length_cons, List.length_nil]); omega) ?_; intro v1 w1 ho hb hg hat; have HO' := Lib.hid ho; have HB' := Lib.hid hb; clear ho hb hg hat HO HB; have HO := HO'; have HB := HB'; clear HO' HB')
          go_roundw
          case rel => exact ⟨k + 1, acc ++ [x], false, by omega, by go_num, rfl, by simp; omega, fun _ => by simp; omega, HO, HB, HH⟩
          case measure => simp [intOf]; omega
    · have hh := HH.out
      rw [List.drop_eq_nil_of_le (by omega)] at hh
      simp only [addF] at hh
      cases done with
      | true =>
        have HH := Lib.hid hh
        clear hh had
        go_wp2
        go_ret
        have e := HH.out
        simp only [if_true] at e
        exact ⟨_, rfl, by rw [← e]; exact HO.out, HB.out⟩
      | false =>
        have HH := Lib.hid hh
        clear hh had
        go_wp2_with (at_builtin; refine Kd.R_append (Kd.int .i64) (w0 := w) w.heap.size rfl (.tmp 36) (.tmp 38) 25 3 (.int .i64 0) 8 rfl Tryd.underlying25 info_i64 rfl (by decide) (by omega) _ acc n [.int .i64 n] (fun _ => True) (fun _ => False) rfl rfl rfl (fun _ hk => hk.elim) (fun _ _ => trivial) HO.out HB.out HB.out.size (by (try simp only [List.length_append, List.length_cons, List.length_nil]); omega) ?_; intro v1 w1 ho hb hg hat; have HO' := Lib.hid ho; have HB' := Lib.hid hb; clear ho hb hg hat HO HB; have HO := HO'; have HB := HB'; clear HO' HB')
        go_ret
        have e := HH.out
        simp only [Bool.false_eq_true, if_false] at e
        exact ⟨_, rfl, by rw [← e]; exact HO.out, HB.out⟩
end Go.Proofs.YtacaeahijecfeaaDoor
