/-
  The reference of the bitmap: List, Rank, Next, Prev, Select, Of, Steps, Do.
-/
import Derived.Test.YtiekoidlibhoeaaDoorBmSet
namespace Go.Proofs.YtiekoidlibhoeaaDoor
open Go.RowKit Go.Shelf Go.Proofs.YtiekoidlibhoeaaDoorW.PrintWords Go.Proofs.YtiekoidlibhoeaaDoorW.PrintMore
attribute [local go_sem] max2_int min2_int max_two min_two
set_option linter.unusedVariables false
set_option linter.unusedSimpArgs false


set_option maxRecDepth 100000 in
set_option maxHeartbeats 2000000 in
theorem set_list (s c B : Nat) (w : World) (hB : BS w s B) :
    Calls Tryd.prog 11 #[.slice (some ⟨s, 0, none⟩) 65536 c] w fun e w' => ∃ v, e = .returned v ∧ Kd.R (Kd.int .u16) 40 w' w.heap.size (fun _ => True) v (listB 1024 B) ∧ Below w.heap.size w w' := by
  have HS := Lib.hid hB
  clear hB
  go_enter Tryd.func11, Tryd.ntmps11
  go_wp2
  go_loopw [3, 8] (fun b i wr => ∃ (k : Nat) (acc : List Int), k ≤ 65536 ∧ i = .int .i64 k ∧ acc.length ≤ k ∧ Hid (Kd.R (Kd.int .u16) 40 wr w.heap.size (fun _ => True) b acc) ∧ Hid (Below w.heap.size w wr) ∧ Hid (acc = bitsFrom B k 0)) (fun _ i _ => 65536 - (intOf i).toNat)
  case atStart => exact ⟨0, [], Nat.zero_le _, rfl, Nat.le_refl _, Lib.hid (Kd.R_nil _ _ _ _ _), Lib.hid (Below.refl _ _), Lib.hid rfl⟩
  case round =>
    obtain ⟨k, acc, hk, rfl, hac, HO, HB, HH⟩ := hrel
    by_cases hlt : k < 65536
    · have hi : (k : Int) < 65536 := by omega
      have hc := (HS.out.nw (Fr.of_below HB.out)).cell hlt
      have HL := Lib.hid (list_snoc B k)
      obtain ⟨x, hx⟩ : ∃ x, x = B.testBit k := ⟨_, rfl⟩
      rw [← hx] at hc HL
      clear hx
      have e1 : IntKind.u16.wrap (k : Int) = k := by simp [IntKind.wrap, IntKind.signed, IntKind.bits]; omega
      cases x
      · clear e1
        go_wp2
        go_roundw
        case rel => exact ⟨k + 1, acc, by omega, by go_num, by omega, HO, HB, Lib.hid (by rw [HL.out, HH.out]; simp)⟩
        case measure => simp [intOf]; omega
      · go_wp2_with (at_builtin; refine Kd.R_append (Kd.int .u16) (w0 := w) w.heap.size rfl (.tmp 14) (.tmp 17) 22 40 (.int .u16 0) 2 rfl Tryd.underlying22 info_u16 rfl (by decide) (by omega) _ acc (k : Int) [.int .u16 (k : Int)] (fun _ => True) (fun _ => False) rfl rfl rfl (fun _ h => h.elim) (fun _ _ => trivial) HO.out HB.out HB.out.size (by omega) ?_; intro v1 w1 ho hb hg hat; have HO := Lib.hid ho; have HB := Lib.hid hb; clear ho hb hg hat)
        go_roundw
        case rel => exact ⟨k + 1, acc ++ [(k : Int)], by omega, by go_num, by simp; omega, HO, HB, Lib.hid (by rw [HL.out, HH.out]; simp)⟩
        case measure => simp [intOf]; omega
    · have hi : ¬ (k : Int) < 65536 := by omega
      have HK : Hid (k = 65536) := Lib.hid (by omega)
      clear hlt
      go_wp2
      go_ret
      refine ⟨_, rfl, ?_, HB.out⟩
      have := HK.out
      subst this
      have e := HH.out
      rw [list_all B 65536 rfl, ← e]; exact HO.out

set_option maxRecDepth 100000 in
set_option maxHeartbeats 2000000 in
theorem set_rank (s c B v : Nat) (w : World) (hB : BS w s B) (hv : v ≤ 65536) :
    Calls Tryd.prog 30 #[.slice (some ⟨s, 0, none⟩) 65536 c, .int .i64 v] w fun e w' => e = .returned (.int .i64 (segN B 0 v : Nat)) ∧ Nw w w' := by
  have HS := Lib.hid hB
  clear hB
  go_enter Tryd.func30, Tryd.ntmps30
  go_wp2
  go_loopw [5, 6] (fun n i wr => ∃ k m : Nat, k ≤ v ∧ i = .int .i64 k ∧ n = .int .i64 m ∧ m ≤ k ∧ Hid (m = segN B 0 k) ∧ Hid (Nw w wr)) (fun _ i _ => v - (intOf i).toNat)
  case atStart => exact ⟨0, 0, Nat.zero_le _, rfl, rfl, Nat.le_refl _, Lib.hid (by rw [seg_none _ _ _ (Nat.le_refl _)]), Lib.hid (Fr.refl _ _)⟩
  case round =>
    obtain ⟨k, m, hk, rfl, rfl, hm, HM, HN⟩ := hrel
    by_cases hlt : k < v
    · have hi : (k : Int) < v := by omega
      have hi2 : (k : Int) < 65536 := by omega
      have hc := (HS.out.nw HN.out).cell (j := k) (by omega)
      have HL := Lib.hid (seg_snoc B k)
      obtain ⟨x, hx⟩ : ∃ x, x = B.testBit k := ⟨_, rfl⟩
      rw [← hx] at hc HL
      clear hx
      cases x
      all_goals
        go_wp2
        go_roundw
        case rel => exact ⟨k + 1, _, by omega, by go_num, by first | rfl | go_num, by first | omega | exact Nat.le_succ_of_le hm | exact Nat.succ_le_succ hm, Lib.hid (by rw [HL.out, ← HM.out]; first | rfl | simp), Lib.hid (by first | exact HN.out | exact HN.out.drew)⟩
        case measure => simp [intOf]; omega
    · have hi : ¬ (k : Int) < v := by omega
      go_wp2
      go_ret
      have : k = v := by omega
      subst this
      exact ⟨ret_int (by rw [← HM.out]), by first | exact HN.out | exact HN.out.drew⟩

set_option maxRecDepth 100000 in
set_option maxHeartbeats 2000000 in
theorem set_next (s c B v : Nat) (w : World) (hB : BS w s B) (hv : v < 65536) :
    Calls Tryd.prog 27 #[.slice (some ⟨s, 0, none⟩) 65536 c, .int .i64 v] w fun e w' => e = .returned (.int .i64 (nextL (listB 1024 B) v)) ∧ Nw w w' := by
  have HS := Lib.hid hB
  clear hB
  have e1 : max (v : Int) 0 = v := by omega
  go_enter Tryd.func27, Tryd.ntmps27
  go_wp2
  clear e1
  go_loopw [5] (fun i wr => ∃ k : Nat, k ≤ 65536 ∧ i = .int .i64 k ∧ Hid (nextL (listB 1024 B) v = nextL (listB 1024 B) k) ∧ Hid (Nw w wr)) (fun i _ => 65536 - (intOf i).toNat)
  case atStart => exact ⟨v, by omega, rfl, Lib.hid rfl, Lib.hid (Fr.refl _ _)⟩
  case round =>
    obtain ⟨k, hk, rfl, HM, HN⟩ := hrel
    by_cases hlt : k < 65536
    · have hi2 : (k : Int) < 65536 := by omega
      have hc := (HS.out.nw HN.out).cell hlt
      by_cases hx : B.testBit k = true
      · rw [hx] at hc
        have HX := Lib.hid (next_here 1024 B k (by omega) hx)
        clear hx
        go_wp2
        go_ret
        exact ⟨ret_int (by rw [HM.out, HX.out]), by first | exact HN.out | exact HN.out.drew⟩
      · have hx : B.testBit k = false := by simpa using hx
        rw [hx] at hc
        have HX := Lib.hid (next_step 1024 B k hx)
        clear hx
        go_wp2
        go_roundw
        case rel => exact ⟨k + 1, by omega, by go_num, Lib.hid (by rw [HM.out, HX.out]), Lib.hid (by first | exact HN.out | exact HN.out.drew)⟩
        case measure => simp [intOf]; omega
    · have hi : ¬ (k : Int) < 65536 := by omega
      have HX := Lib.hid (next_over 1024 B k (by omega))
      go_wp2
      go_ret
      exact ⟨ret_int (by rw [HM.out, HX.out]), by first | exact HN.out | exact HN.out.drew⟩

set_option maxRecDepth 100000 in
set_option maxHeartbeats 2000000 in
theorem set_prev (s c B v : Nat) (w : World) (hB : BS w s B) (hv : v < 65536) :
    Calls Tryd.prog 29 #[.slice (some ⟨s, 0, none⟩) 65536 c, .int .i64 v] w fun e w' => e = .returned (.int .i64 (prevL (listB 1024 B) v)) ∧ Nw w w' := by
  have HS := Lib.hid hB
  clear hB
  have e1 : min (v : Int) 65535 = v := by omega
  go_enter Tryd.func29, Tryd.ntmps29
  go_wp2
  clear e1
  go_loopw [5] (fun i wr => ∃ k : Nat, k ≤ 65536 ∧ i = .int .i64 ((k : Int) - 1) ∧ Hid (prevL (listB 1024 B) v = prevL (listB 1024 B) ((k : Int) - 1)) ∧ Hid (Nw w wr)) (fun i _ => (intOf i + 1).toNat)
  case atStart => exact ⟨v + 1, by omega, by go_num, Lib.hid (by rw [show (((v + 1 : Nat) : Int) - 1) = v by omega]), Lib.hid (Fr.refl _ _)⟩
  case round =>
    obtain ⟨k1, hk, rfl, HM, HN⟩ := hrel
    by_cases hlt : 0 < k1
    · obtain ⟨k, rfl⟩ : ∃ k, k1 = k + 1 := ⟨k1 - 1, by omega⟩
      have e2 : ((k + 1 : Nat) : Int) - 1 = k := by omega
      rw [e2] at HM ⊢
      clear e2
      have hi2 : (k : Int) < 65536 := by omega
      have hc := (HS.out.nw HN.out).cell (j := k) (by omega)
      by_cases hx : B.testBit k = true
      · rw [hx] at hc
        have HX := Lib.hid (prev_here 1024 B k (by omega) hx)
        clear hx
        go_wp2
        go_ret
        exact ⟨ret_int (by rw [HM.out, HX.out]), by first | exact HN.out | exact HN.out.drew⟩
      · have hx : B.testBit k = false := by simpa using hx
        rw [hx] at hc
        have HX := Lib.hid (prev_step 1024 B k hx)
        clear hx
        go_wp2
        go_roundw
        case rel => exact ⟨k, by omega, by go_num, Lib.hid (by rw [HM.out, HX.out]), Lib.hid (by first | exact HN.out | exact HN.out.drew)⟩
        case measure => simp [intOf]
    · have hk0 : k1 = 0 := by omega
      subst hk0
      have HX := Lib.hid (prev_under 1024 B (((0 : Nat) : Int) - 1) (by omega))
      have e2 : ((0 : Nat) : Int) - 1 = -1 := by omega
      rw [e2] at HM HX ⊢
      clear e2
      go_wp2
      go_ret
      exact ⟨ret_int (by rw [HM.out, HX.out]), by first | exact HN.out | exact HN.out.drew⟩

set_option maxRecDepth 100000 in
set_option maxHeartbeats 2000000 in
theorem set_select (s c B : Nat) (k0 : Int) (w : World) (hB : BS w s B) (hk0 : 0 ≤ k0) (hk1 : k0 ≤ 9223372036854775807) :
    Calls Tryd.prog 24 #[.slice (some ⟨s, 0, none⟩) 65536 c, .int .i64 k0] w fun e w' => e = .returned (.int .i64 (selectL (listB 1024 B) k0)) ∧ Nw w w' := by
  have HS := Lib.hid hB
  clear hB
  go_enter Tryd.func24, Tryd.ntmps24
  go_wp2
  go_loopw [1, 8] (fun n i wr => ∃ (k : Nat) (m : Int), k ≤ 65536 ∧ i = .int .i64 k ∧ n = .int .i64 m ∧ 0 ≤ m ∧ m ≤ k0 ∧ Hid (m + (segN B 0 k : Nat) = k0) ∧ Hid (Nw w wr)) (fun _ i _ => 65536 - (intOf i).toNat)
  case atStart => exact ⟨0, k0, Nat.zero_le _, rfl, rfl, hk0, Int.le_refl _, Lib.hid (by rw [seg_none _ _ _ (Nat.le_refl _)]; simp), Lib.hid (Fr.refl _ _)⟩
  case round =>
    obtain ⟨k, m, hk, rfl, rfl, hm, hmk, HM, HN⟩ := hrel
    by_cases hlt : k < 65536
    · have hi2 : (k : Int) < 65536 := by omega
      have hc := (HS.out.nw HN.out).cell hlt
      have HL := Lib.hid (seg_snoc B k)
      by_cases hx : B.testBit k = true
      · rw [hx] at hc HL
        have HX := Lib.hid (sel_at16 1024 B k (by omega) hx)
        clear hx
        by_cases hm0 : m = 0
        · subst hm0
          go_wp2
          go_ret
          exact ⟨ret_int (by rw [← HX.out, ← HM.out]; simp), by first | exact HN.out | exact HN.out.drew⟩
        · have t1 : (m == 0) = false := by simpa using hm0
          have hm2 : 1 ≤ m := by omega
          clear hm0
          go_wp2
          go_roundw
          case rel => exact ⟨k + 1, m - 1, by omega, by go_num, by first | rfl | go_num, by omega, by omega, Lib.hid (by have := HM.out; rw [HL.out, if_pos rfl]; omega), Lib.hid (by first | exact HN.out | exact HN.out.drew)⟩
          case measure => simp [intOf]; omega
      · have hx : B.testBit k = false := by simpa using hx
        rw [hx] at hc HL
        clear hx
        go_wp2
        go_roundw
        case rel => exact ⟨k + 1, m, by omega, by go_num, by first | rfl | go_num, by omega, by omega, Lib.hid (by have := HM.out; rw [HL.out, if_neg (by simp)]; omega), Lib.hid (by first | exact HN.out | exact HN.out.drew)⟩
        case measure => simp [intOf]; omega
    · have hi : ¬ (k : Int) < 65536 := by omega
      have HX := Lib.hid (sel_over 1024 B k0 hk0 (by
        have e : k = 65536 := by omega
        subst e
        have := HM.out
        show ((segN B 0 65536 : Nat) : Int) ≤ k0
        omega))
      go_wp2
      go_ret
      exact ⟨ret_int (by rw [HX.out]), by first | exact HN.out | exact HN.out.drew⟩

end Go.Proofs.YtiekoidlibhoeaaDoor
