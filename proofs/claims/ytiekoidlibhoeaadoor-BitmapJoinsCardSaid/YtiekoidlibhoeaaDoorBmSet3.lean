/-
  The reference of the bitmap: Of, Runs, Join, Steps, Do.
-/
import Derived.Test.YtiekoidlibhoeaaDoorBmSet2
import Derived.Test.YtiekoidlibhoeaaDoorRound
namespace Go.Proofs.YtiekoidlibhoeaaDoor
open Go.RowKit Go.Shelf Go.Proofs.YtiekoidlibhoeaaDoorW.PrintWords Go.Proofs.YtiekoidlibhoeaaDoorW.PrintMore
set_option linter.unusedVariables false
set_option linter.unusedSimpArgs false

/-- The set of those numbers. -/
def ofL (l : List Int) : Nat := l.foldl (fun B v => (stepC B true v.toNat (v.toNat + 1)).1) 0
theorem ofL_snoc (l : List Int) (k : Nat) (h : k < l.length) : ofL (l.take (k + 1)) = (stepC (ofL (l.take k)) true l[k].toNat (l[k].toNat + 1)).1 := by
  unfold ofL
  rw [List.take_succ_eq_append_getElem h, List.foldl_append]; rfl
theorem stepC_one (B v j : Nat) : (stepC B true v (v + 1)).1.testBit j = if j = v then true else B.testBit j := by
  rw [stepC_new B true v v j (Nat.le_refl _), stepC_start B true v v (Nat.le_refl _)]

set_option maxRecDepth 100000 in
set_option maxHeartbeats 2000000 in
theorem set_of (A : Option Addr) (c : Nat) (l : List Int) (w : World) (hr : Kd.C (Kd.int .u16) w A l.length l) (hb : ∀ a, a ∈ l → 0 ≤ a ∧ a ≤ 65535) (hn : l.length ≤ 140737488351232) :
    Calls Tryd.prog 12 #[.slice A l.length c] w fun e w' => ∃ s c, e = .returned (.slice (some ⟨s, 0, none⟩) 65536 c) ∧ w.heap.size ≤ s ∧ BS w' s (ofL l) ∧ Nw w w' := by
  have HR := Lib.hid hr
  have HB := Lib.hid hb
  clear hr hb
  go_enter Tryd.func12, Tryd.ntmps12
  go_wp2_with (go_at_call 40; refine (set_new _).mono ?_; rintro e w1 ⟨s, c2, rfl, hs, hS, hN⟩)
  have HS := Lib.hid hS
  have HN := Lib.hid hN
  clear hS hN
  go_loopw [9] (fun i wr => ∃ k : Nat, k ≤ l.length ∧ i = .int .i64 k ∧ Hid (BS wr s (ofL (l.take k))) ∧ Hid (Nw w wr)) (fun i _ => l.length - (intOf i).toNat)
  case atStart => exact ⟨0, Nat.zero_le _, rfl, HS, HN⟩
  case round =>
    obtain ⟨k, hk, rfl, HS, HN⟩ := hrel
    by_cases hlt : k < l.length
    · obtain ⟨ad, hA, hcell⟩ := at_nat HR.out hlt
      cases hA
      have hcell := HN.out.cell hcell (fun h => h)
      have HL := Lib.hid (ofL_snoc l k hlt)
      have hx2 := HB.out l[k] (List.getElem_mem hlt)
      obtain ⟨x, hx⟩ : ∃ x, x = l[k] := ⟨_, rfl⟩
      rw [← hx] at hcell HL hx2
      clear hx
      obtain ⟨v, rfl⟩ : ∃ v : Nat, x = v := ⟨x.toNat, by omega⟩
      have hv : v < 65536 := by omega
      have hfz := HS.out.frozen v
      have hcl := HS.out.cell hv
      clear hx2
      go_wp2
      go_roundw
      case rel => exact ⟨k + 1, by omega, by go_num, Lib.hid (by rw [HL.out, Int.toNat_natCast]; exact HS.out.set (by rw [stepC_one, if_pos rfl]) (fun j hj => by rw [stepC_one, if_neg hj])), Lib.hid (HN.out.trans_new ((Fr.refl (fun q => q = s) _).set rfl v _) (by have := hs; simpa using this))⟩
      case measure => simp [intOf]; omega
    · have HT : Hid (l.take k = l) := Lib.hid (List.take_of_length_le (by omega))
      go_wp2
      go_ret
      exact ⟨s, c2, rfl, hs, by rw [← HT.out]; exact HS.out, HN.out⟩

set_option maxRecDepth 100000 in
set_option maxHeartbeats 2000000 in
theorem set_runs (s c B : Nat) (w : World) (hB : BS w s B) :
    Calls Tryd.prog 18 #[.slice (some ⟨s, 0, none⟩) 65536 c] w fun e w' => e = .returned (.int .i64 (segN (runsN B) 0 65536 : Nat)) ∧ Nw w w' := by
  have HS := Lib.hid hB
  clear hB
  go_enter Tryd.func18, Tryd.ntmps18
  go_wp2
  go_loopw [3, 7] (fun n i wr => ∃ k m : Nat, k ≤ 65536 ∧ i = .int .i64 k ∧ n = .int .i64 m ∧ m ≤ k ∧ Hid (m = segN (runsN B) 0 k) ∧ Hid (Nw w wr)) (fun _ i _ => 65536 - (intOf i).toNat)
  case atStart => exact ⟨0, 0, Nat.zero_le _, rfl, rfl, Nat.le_refl _, Lib.hid (by rw [seg_none _ _ _ (Nat.le_refl _)]), Lib.hid (Fr.refl _ _)⟩
  case round =>
    obtain ⟨k, m, hk, rfl, rfl, hm, HM, HN⟩ := hrel
    by_cases hlt : k < 65536
    · have hi2 : (k : Int) < 65536 := by omega
      have hc := (HS.out.nw HN.out).cell hlt
      have HL := Lib.hid (seg_snoc (runsN B) k)
      rw [tb_runs] at HL
      by_cases h0 : k = 0
      · subst h0
        have e0 : ((0 : Nat) : Int) = 0 := rfl
        obtain ⟨x, hx⟩ : ∃ x, x = B.testBit 0 := ⟨_, rfl⟩
        rw [← hx] at hc HL
        rw [e0] at hi2 ⊢
        clear hx e0
        cases x
        all_goals
          go_wp2
          go_roundw
          case rel => exact ⟨1, _, by omega, by go_num, by first | rfl | go_num, by first | omega | exact Nat.le_succ_of_le hm | exact Nat.succ_le_succ hm, Lib.hid (by rw [HL.out, ← HM.out]; first | rfl | simp), Lib.hid (by first | exact HN.out | exact HN.out.drew)⟩
          case measure => simp [intOf]
      · obtain ⟨j, rfl⟩ : ∃ j, k = j + 1 := ⟨k - 1, by omega⟩
        have hc2 := (HS.out.nw HN.out).cell (j := j) (by omega)
        rw [show j + 1 - 1 = j by omega, decide_eq_true (show 0 < j + 1 by omega)] at HL
        have e1 : ((j + 1 : Nat) : Int) - 1 = j := by omega
        have e2 : (((j + 1 : Nat) : Int) == 0) = false := by simp; omega
        have hi3 : (j : Int) < 65536 := by omega
        obtain ⟨x, hx⟩ : ∃ x, x = B.testBit (j + 1) := ⟨_, rfl⟩
        obtain ⟨y, hy⟩ : ∃ y, y = B.testBit j := ⟨_, rfl⟩
        rw [← hx] at hc HL
        rw [← hy] at hc2 HL
        obtain ⟨k, hkj⟩ : ∃ k, k = j + 1 := ⟨_, rfl⟩
        rw [← hkj] at hc HL e1 e2 HM hi2 hk hm hlt ⊢
        have HKJ := Lib.hid hkj
        clear hx hy hkj h0
        cases x <;> cases y
        all_goals
          go_wp2
          go_roundw
          case rel => exact ⟨k + 1, _, by omega, by go_num, by first | rfl | go_num, by first | omega | exact Nat.le_succ_of_le hm | exact Nat.succ_le_succ hm, Lib.hid (by rw [HL.out, ← HM.out]; first | rfl | simp), Lib.hid (by first | exact HN.out | exact HN.out.drew)⟩
          case measure => simp [intOf]; omega
    · have hi : ¬ (k : Int) < 65536 := by omega
      have HK : Hid (k = 65536) := Lib.hid (by omega)
      clear hlt
      go_wp2
      go_ret
      have := HK.out
      subst this
      exact ⟨ret_int (by rw [← HM.out]), by first | exact HN.out | exact HN.out.drew⟩

theorem joinT_spec (op : Nat) (a b : Bool) : joinT op a b = if op = 0 then a || b else if op = 1 then a && b else if op = 2 then a && !b else a != b := rfl
/-- The first k bits of C, no others. -/
def lowB (C k : Nat) : Nat := C % 2 ^ k
theorem tb_low (C k j : Nat) : (lowB C k).testBit j = (decide (j < k) && C.testBit j) := Nat.testBit_mod_two_pow ..
set_option maxRecDepth 100000 in
set_option maxHeartbeats 4000000 in
theorem set_join (s t c d B C op : Nat) (w : World) (hB : BS w s B) (hC : BS w t C) (hop : op < 4) :
    Calls Tryd.prog 35 #[.slice (some ⟨s, 0, none⟩) 65536 c, .slice (some ⟨t, 0, none⟩) 65536 d, .int .i64 op] w fun e w' => ∃ u c', e = .returned (.slice (some ⟨u, 0, none⟩) 65536 c') ∧ w.heap.size ≤ u ∧ BS w' u (joinN op B C) ∧ Nw w w' := by
  have HS := Lib.hid hB
  have HT := Lib.hid hC
  clear hB hC
  go_enter Tryd.func35, Tryd.ntmps35
  go_wp2_with (go_at_call 40; refine (set_new _).mono ?_; rintro e w1 ⟨u, c2, rfl, hu, hU, hN⟩)
  have HU := Lib.hid hU
  have HN := Lib.hid hN
  clear hU hN
  go_loopw [12] (fun i wr => ∃ k : Nat, k ≤ 65536 ∧ i = .int .i64 k ∧ Hid (∃ D, BS wr u D ∧ ∀ j, j < k → D.testBit j = (joinN op B C).testBit j) ∧ Hid (Nw w wr)) (fun i _ => 65536 - (intOf i).toNat)
  case atStart => exact ⟨0, Nat.zero_le _, rfl, Lib.hid ⟨0, HU.out, fun j hj => absurd hj (by omega)⟩, HN⟩
  case round =>
    obtain ⟨k, hk, rfl, HD, HN⟩ := hrel
    by_cases hlt : k < 65536
    · obtain ⟨D, hD1, hD2⟩ := HD.out
      have HD1 := Lib.hid hD1
      have HD2 := Lib.hid hD2
      have hi2 : (k : Int) < 65536 := by omega
      have hc1 := (HS.out.nw HN.out).cell hlt
      have hc2 := (HT.out.nw HN.out).cell hlt
      have hc3 := hD1.cell hlt
      have hfz := hD1.frozen k
      have HJ := Lib.hid (tb_join op B C k)
      obtain ⟨x, hx⟩ : ∃ x, x = B.testBit k := ⟨_, rfl⟩
      obtain ⟨y, hy⟩ : ∃ y, y = C.testBit k := ⟨_, rfl⟩
      rw [← hx] at hc1 HJ
      rw [← hy] at hc2 HJ
      have HPut := Lib.hid (fun (W : World) (b : Bool) (hW : BS W u D) (hb : b = joinT op x y) => (⟨(stepC D b k (k + 1)).1, hW.set (by rw [stepC_new D b k k k (Nat.le_refl _), if_pos rfl]) (fun j hj => by rw [stepC_new D b k k j (Nat.le_refl _), if_neg hj, stepC_start D b k k (Nat.le_refl _)]), fun j hj => by
        rw [stepC_new D b k k j (Nat.le_refl _)]
        by_cases e : j = k
        · rw [if_pos e, e, HJ.out, hb]
        · rw [if_neg e, stepC_start D b k k (Nat.le_refl _)]; exact HD2.out j (by omega)⟩ : ∃ D', BS (W.setCell ⟨u, k, none⟩ (.bool b)) u D' ∧ ∀ j, j < k + 1 → D'.testBit j = (joinN op B C).testBit j))
      clear hx hy hD1 hD2 HD HD2 HJ
      rcases (by omega : op = 0 ∨ op = 1 ∨ op = 2 ∨ op = 3) with rfl | rfl | rfl | rfl
      · cases x <;> cases y
        all_goals
          go_wp2
          go_roundw
          case rel => exact ⟨k + 1, by omega, by go_num, Lib.hid (by first | exact HPut.out _ _ HD1.out rfl | exact HPut.out _ _ (HD1.out.nw (Fr.refl _ _).drew) rfl), Lib.hid (by first | exact HN.out.trans_new ((Fr.refl (fun q => q = u) _).set rfl k _) hu | exact HN.out.trans_new ((Fr.refl (fun q => q = u) _).drew.set rfl k _) hu | exact HN.out.trans_new ((Fr.refl (fun q => q = u) _).set rfl k _).drew hu)⟩
          case measure => simp [intOf]; omega
      · cases x <;> cases y
        all_goals
          go_wp2
          go_roundw
          case rel => exact ⟨k + 1, by omega, by go_num, Lib.hid (by first | exact HPut.out _ _ HD1.out rfl | exact HPut.out _ _ (HD1.out.nw (Fr.refl _ _).drew) rfl), Lib.hid (by first | exact HN.out.trans_new ((Fr.refl (fun q => q = u) _).set rfl k _) hu | exact HN.out.trans_new ((Fr.refl (fun q => q = u) _).drew.set rfl k _) hu | exact HN.out.trans_new ((Fr.refl (fun q => q = u) _).set rfl k _).drew hu)⟩
          case measure => simp [intOf]; omega
      · cases x <;> cases y
        all_goals
          go_wp2
          go_roundw
          case rel => exact ⟨k + 1, by omega, by go_num, Lib.hid (by first | exact HPut.out _ _ HD1.out rfl | exact HPut.out _ _ (HD1.out.nw (Fr.refl _ _).drew) rfl), Lib.hid (by first | exact HN.out.trans_new ((Fr.refl (fun q => q = u) _).set rfl k _) hu | exact HN.out.trans_new ((Fr.refl (fun q => q = u) _).drew.set rfl k _) hu | exact HN.out.trans_new ((Fr.refl (fun q => q = u) _).set rfl k _).drew hu)⟩
          case measure => simp [intOf]; omega
      · cases x <;> cases y
        all_goals
          have HKl := Lib.hid hlt
          have hi0 : (0 : Int) ≤ (k : Int) := by omega
          clear hlt hk
          go_wp2
          obtain ⟨N, hNN⟩ : ∃ N, N = 65536 := ⟨_, rfl⟩
          have hi3 : (k : Int) < (N : Int) := by omega
          rw [← hNN]
          have HNN := Lib.hid hNN
          clear hNN hi2
          refine wp_still 12 (by kernel_rfl) (by kernel_rfl) ?_
          simp only [List.take_succ_cons, List.take_zero, List.drop_succ_cons, List.drop_zero]
          repeat still_step
          refine wpStill_nil ?_
          have hNN := HNN.out
          subst hNN
          clear hi3
          have hlt := HKl.out
          have hi2 : (k : Int) < 65536 := by omega
          go_wp2
          go_roundw
          case rel => exact ⟨k + 1, HKl.out, by go_num, Lib.hid (by first | exact HPut.out _ _ (HD1.out.nw (Fr.refl _ _).drew) rfl | exact HPut.out _ _ HD1.out rfl), Lib.hid (by first | exact HN.out.trans_new ((Fr.refl (fun q => q = u) _).drew.set rfl k _) hu | exact HN.out.trans_new ((Fr.refl (fun q => q = u) _).set rfl k _).drew hu)⟩
          case measure => simp [intOf]; omega
    · have hi : ¬ (k : Int) < 65536 := by omega
      have HK : Hid (k = 65536) := Lib.hid (by omega)
      clear hlt
      go_wp2
      go_ret
      have := HK.out
      subst this
      obtain ⟨D, h1, h2⟩ := HD.out
      obtain ⟨cur, g1, g2⟩ := h1
      exact ⟨u, ⟨c2, rfl⟩, hu, ⟨cur, g1, fun j hj => by rw [g2 j hj, h2 j hj]⟩, HN.out⟩

end Go.Proofs.YtiekoidlibhoeaaDoor
