/-
  The iterators of the package bit (Rising, Falling): their contracts; and the loop over them ('walk').
-/
import Derived.RangeFuncNested
import Derived.RangeFuncBound
import Derived.RangeFuncCalls
import Derived.RangeFuncLeaves
import Derived.RangeFuncBox
import Derived.Shelf.Abstract
import Derived.Shelf.RegionOpen
import Derived.WalkKit
import Derived.OwnWalkIn
import Derived.TacticsInMore
import Derived.LoopNIn
import Derived.LoopIn
import Derived.Maps.AppendAt
import Derived.Test.YtkglhinlnkdajaaDoorBit
import Derived.Test.YtkglhinlnkdajaaDoorBitPure4
namespace Go.Proofs.YtkglhinlnkdajaaDoor
open Go.RowKit Go.Shelf Go.Proofs.YtkglhinlnkdajaaDoorW.PrintWords Go.Proofs.YtkglhinlnkdajaaDoorW.PrintMore
attribute [local go_sem] Oper.semAt_some
set_option linter.unusedVariables false
set_option linter.unusedSimpArgs false

theorem Tb.below {n₀ : Nat} {w w1 : World} (h : Tb w) (hg : 0 < n₀) (hf : Below n₀ w w1) : Tb w1 := fun j hj => (hf.cell (p := ⟨_, _, none⟩) hg).trans (h j hj)

set_option maxHeartbeats 1000000 in
theorem rising_calls (x : Nat) (w : World) : Calls Tryd.prog 46 #[.int .u64 x] w fun e w' => e = .returned (.func (.func 49) #[] #[.pointer (some ⟨w.heap.size, 0, none⟩)]) ∧ w' = w.alloc (.cells #[.int .u64 x] 25) := by
  go_enter Tryd.func46, Tryd.ntmps46
  go_wp2
  go_ret
  exact ⟨rfl, rfl⟩
set_option maxHeartbeats 1000000 in
theorem falling_calls (x : Nat) (w : World) : Calls Tryd.prog 45 #[.int .u64 x] w fun e w' => e = .returned (.func (.func 48) #[] #[.pointer (some ⟨w.heap.size, 0, none⟩)]) ∧ w' = w.alloc (.cells #[.int .u64 x] 25) := by
  go_enter Tryd.func45, Tryd.ntmps45
  go_wp2
  go_ret
  exact ⟨rfl, rfl⟩

set_option maxRecDepth 100000 in
set_option maxHeartbeats 2000000 in
theorem rise_in (n : Nat) (hn : 1 ≤ n) (l Bn n₀ x : Nat) (hx : x < 18446744073709551616) (hg : 0 < n₀) (J Jx : List Int → World → Prop)
    (hY : ∀ pre y W, J pre W → pre.length < (listW x).length → YieldAt Fence.wide (n - 1) Tryd.prog l #[.int .i64 y] W fun e W' =>
      (e = .returned (.bool true) ∧ J (pre ++ [y]) W' ∧ Below n₀ W W') ∨ (e = .returned (.bool false) ∧ Jx (pre ++ [y]) W'))
    (W : World) (hBn : W.cell? ⟨Bn, 0, none⟩ = some (.int .u64 x)) (hT : Tb W) (h0 : J [] W) :
    CallsIn Fence.wide n Tryd.prog 49 #[.func (.yield l) #[] #[], .pointer (some ⟨Bn, 0, none⟩)] W fun e W' => (∃ v, e = .returned v) ∧
      ((∃ ys, ys = listW x ∧ J ys W') ∨ (∃ pre, pre <+: listW x ∧ Jx pre W')) := by
  have HT := Lib.hid hT
  have HY := Lib.hid hY
  have H0 := Lib.hid h0
  have HX := Lib.hid hx
  clear hT hY h0 hx
  refine callsIn_of_wp Tryd.func49 rfl trivial ?_ rfl
  simp only [Tryd.ntmps49, List.size_toArray, List.length_cons, List.length_nil, Nat.reduceAdd, Nat.reduceSub, Array.replicate_succ, Array.replicate_zero, List.push_toArray, List.append_toArray, List.nil_append, List.cons_append]
  gi_wp2
  gi_loopw [3] (fun p wr => ∃ (v : Nat) (pre : List Int), p = .int .u64 v ∧ Hid (v < 18446744073709551616) ∧ Hid (listW x = pre ++ listW v) ∧ Hid (J pre wr) ∧ Hid (Tb wr))
    (fun p _ => (listW (intOf p).toNat).length)
  case atStart => exact ⟨x, [], rfl, HX, Lib.hid rfl, H0, HT⟩
  case round =>
    obtain ⟨v, pre, rfl, HV, HL, HJ, HTr⟩ := hrel
    by_cases h : v = 0
    · have t1 : ((v : Int) == 0) = true := by simp [h]
      have HE : Hid (pre = listW x) := Lib.hid (by rw [HL.out, h, listW_zero, List.append_nil])
      clear h HL
      gi_wp2
      go_end0
      exact ⟨⟨_, rfl⟩, .inl ⟨pre, HE.out, HJ.out⟩⟩
    · have t1 : ((v : Int) == 0) = false := by simp [h]
      have HLow := Lib.hid (low_calls v wr HV.out HTr.out)
      have HR := Lib.hid (rise_eq HV.out h)
      have HV2 := Lib.hid (rise_lt (v := v) HV.out)
      obtain ⟨k, hk⟩ : ∃ k, k = lowN v := ⟨_, rfl⟩
      rw [← hk] at HLow HR
      clear hk
      obtain ⟨fn, tmps, assign, body, hy, hR⟩ := HY.out pre k wr HJ.out (by rw [HL.out, HR.out]; simp)
      have hs : IntKind.u64.wrap ((v : Int) - 1) = ((v - 1 : Nat) : Int) := by
        have := HV.out
        rw [show (v : Int) - 1 = ((v - 1 : Nat) : Int) by omega]
        exact u64w _ (by omega)
      have ha := and_u64 v (v - 1) HV.out (by have := HV.out; omega)
      obtain ⟨v2, hv2⟩ : ∃ q, q = v &&& (v - 1) := ⟨_, rfl⟩
      rw [← hv2] at ha HR HV2
      clear hv2 h
      gi_wp2_with (refine ⟨trivial, ?_⟩; gi_at_call 24; refine (callsIn_wide.2 HLow.out).mono ?_; rintro e w' ⟨rfl, rfl⟩; clear HLow)
      refine hR.mono ?_
      rintro e W3 (⟨rfl, hJ3, hk3⟩ | ⟨rfl, hJx3⟩)
      · have HJ3 := Lib.hid hJ3
        have HT3 := Lib.hid (HTr.out.below hg hk3)
        clear hJ3 hk3 hy hR HJ HTr
        gi_wp2
        go_roundw
        case rel => exact ⟨v2, pre ++ [k], rfl, HV2, Lib.hid (by rw [HL.out, HR.out]; simp), HJ3, HT3⟩
        case measure => simp [intOf, HR.out]
      · have HJ3 := Lib.hid hJx3
        clear hJx3 hy hR HJ HTr
        gi_wp2
        refine bodyPost_ret (results_none rfl _ _ _) rfl ?_
        exact ⟨⟨_, rfl⟩, .inr ⟨pre ++ [k], ⟨listW v2, by rw [HL.out, HR.out]; simp⟩, HJ3.out⟩⟩

set_option maxRecDepth 100000 in
set_option maxHeartbeats 2000000 in
theorem fall_in (n : Nat) (hn : 1 ≤ n) (l Bn n₀ x : Nat) (hx : x < 18446744073709551616) (hg : 0 < n₀) (J Jx : List Int → World → Prop)
    (hY : ∀ pre y W, J pre W → pre.length < (listW x).reverse.length → YieldAt Fence.wide (n - 1) Tryd.prog l #[.int .i64 y] W fun e W' =>
      (e = .returned (.bool true) ∧ J (pre ++ [y]) W' ∧ Below n₀ W W') ∨ (e = .returned (.bool false) ∧ Jx (pre ++ [y]) W'))
    (W : World) (hBn : W.cell? ⟨Bn, 0, none⟩ = some (.int .u64 x)) (hT : Tb W) (h0 : J [] W) :
    CallsIn Fence.wide n Tryd.prog 48 #[.func (.yield l) #[] #[], .pointer (some ⟨Bn, 0, none⟩)] W fun e W' => (∃ v, e = .returned v) ∧
      ((∃ ys, ys = (listW x).reverse ∧ J ys W') ∨ (∃ pre, pre <+: (listW x).reverse ∧ Jx pre W')) := by
  have HT := Lib.hid hT
  have HY := Lib.hid hY
  have H0 := Lib.hid h0
  have HX := Lib.hid hx
  clear hT hY h0 hx
  refine callsIn_of_wp Tryd.func48 rfl trivial ?_ rfl
  simp only [Tryd.ntmps48, List.size_toArray, List.length_cons, List.length_nil, Nat.reduceAdd, Nat.reduceSub, Array.replicate_succ, Array.replicate_zero, List.push_toArray, List.append_toArray, List.nil_append, List.cons_append]
  gi_wp2
  gi_loopw [3] (fun p wr => ∃ (v : Nat) (pre : List Int), p = .int .u64 v ∧ Hid (v < 18446744073709551616) ∧ Hid ((listW x).reverse = pre ++ (listW v).reverse) ∧ Hid (J pre wr) ∧ Hid (Tb wr))
    (fun p _ => (listW (intOf p).toNat).length)
  case atStart => exact ⟨x, [], rfl, HX, Lib.hid rfl, H0, HT⟩
  case round =>
    obtain ⟨v, pre, rfl, HV, HL, HJ, HTr⟩ := hrel
    by_cases h : v = 0
    · have t1 : ((v : Int) == 0) = true := by simp [h]
      have HE : Hid (pre = (listW x).reverse) := Lib.hid (by rw [HL.out, h, listW_zero]; simp)
      clear h HL
      gi_wp2
      go_end0
      exact ⟨⟨_, rfl⟩, .inl ⟨pre, HE.out, HJ.out⟩⟩
    · have t1 : ((v : Int) == 0) = false := by simp [h]
      have HHi := Lib.hid (high_calls v wr HV.out)
      have HR := Lib.hid (fall_eq HV.out h)
      have HCl := Lib.hid (fun W => clear_calls v (highN v) W HV.out)
      have HV2 := Lib.hid (clr_lt v (highN v) HV.out)
      obtain ⟨k, hk⟩ : ∃ k, k = highN v := ⟨_, rfl⟩
      rw [← hk] at HHi HR HCl HV2
      clear hk
      obtain ⟨fn, tmps, assign, body, hy, hR⟩ := HY.out pre k wr HJ.out (by rw [HL.out, HR.out]; simp)
      obtain ⟨v2, hv2⟩ : ∃ q, q = clrN v k := ⟨_, rfl⟩
      rw [← hv2] at HR HCl HV2
      clear hv2 h
      gi_wp2_with (refine ⟨trivial, ?_⟩; gi_at_call 25; refine (callsIn_wide.2 HHi.out).mono ?_; rintro e w' ⟨rfl, rfl⟩; clear HHi)
      refine hR.mono ?_
      rintro e W3 (⟨rfl, hJ3, hk3⟩ | ⟨rfl, hJx3⟩)
      · have HJ3 := Lib.hid hJ3
        have HT3 := Lib.hid (HTr.out.below hg hk3)
        clear hJ3 hk3 hy hR HJ HTr
        gi_wp2_with (refine ⟨trivial, ?_⟩; gi_at_call 28; refine (callsIn_wide.2 (HCl.out _)).mono ?_; rintro e w' ⟨rfl, rfl⟩; clear HCl)
        go_roundw
        case rel => exact ⟨v2, pre ++ [k], rfl, HV2, Lib.hid (by rw [HL.out, HR.out]; simp), HJ3, HT3⟩
        case measure => simp [intOf, HR.out]
      · have HJ3 := Lib.hid hJx3
        clear hJx3 hy hR HJ HTr
        gi_wp2
        refine bodyPost_ret (results_none rfl _ _ _) rfl ?_
        exact ⟨⟨_, rfl⟩, .inr ⟨pre ++ [k], ⟨(listW v2).reverse, by rw [HL.out, HR.out]; simp⟩, HJ3.out⟩⟩

theorem rise_stops (n : Nat) (hn : 1 ≤ n) (Bn n₀ x : Nat) (hx : x < 18446744073709551616) (hg : 0 < n₀) (w : World) (hB : Bn < w.heap.size) (hn₀ : n₀ ≤ w.heap.size) (hBn : w.cell? ⟨Bn, 0, none⟩ = some (.int .u64 x)) (hT : Tb w) :
    SeqStopsK Fence.wide n Tryd.prog 49 #[.pointer (some ⟨Bn, 0, none⟩)] (fun y : Int => #[Value.int .i64 y]) (Below n₀) (fun ys => ys = listW x) (fun pre => pre <+: listW x) (listW x).length w := fun l J Jx W hW _ _ hY h0 =>
  rise_in n hn l Bn n₀ x hx hg J Jx hY W ((hW.cell (p := ⟨Bn, 0, none⟩) hB).trans hBn) (hT.below (Nat.lt_of_lt_of_le hg hn₀) hW) h0
theorem fall_stops (n : Nat) (hn : 1 ≤ n) (Bn n₀ x : Nat) (hx : x < 18446744073709551616) (hg : 0 < n₀) (w : World) (hB : Bn < w.heap.size) (hn₀ : n₀ ≤ w.heap.size) (hBn : w.cell? ⟨Bn, 0, none⟩ = some (.int .u64 x)) (hT : Tb w) :
    SeqStopsK Fence.wide n Tryd.prog 48 #[.pointer (some ⟨Bn, 0, none⟩)] (fun y : Int => #[Value.int .i64 y]) (Below n₀) (fun ys => ys = (listW x).reverse) (fun pre => pre <+: (listW x).reverse) (listW x).reverse.length w := fun l J Jx W hW _ _ hY h0 =>
  fall_in n hn l Bn n₀ x hx hg J Jx hY W ((hW.cell (p := ⟨Bn, 0, none⟩) hB).trans hBn) (hT.below (Nat.lt_of_lt_of_le hg hn₀) hW) h0

set_option maxRecDepth 100000 in
set_option maxHeartbeats 4000000 in
theorem walk_down (x k : Nat) (w : World) (hx : x < 18446744073709551616) (hk1 : 1 ≤ k) (hk2 : k ≤ 70) (hT : Tb w) :
    Calls Tryd.prog 39 #[.int .u64 x, .bool false, .int .i64 k] w fun e w' => ∃ A c, e = .returned (.slice A (((listW x).reverse).take k).length c) ∧ Kd.C (Kd.int .i64) w' A (((listW x).reverse).take k).length (((listW x).reverse).take k) ∧ Nw w w' := by
  have HT := Lib.hid hT
  have HX := Lib.hid hx
  clear hT hx
  obtain ⟨i0, hi, hz0, hz1, hz2⟩ := info_parts info_i64
  refine (callsIn_wide (n := 3)).1 ?_
  refine callsIn_of_wp_marks Tryd.func39 rfl trivial ?_ rfl
  simp only [Tryd.ntmps39, List.size_toArray, List.length_cons, List.length_nil, Nat.reduceAdd, Nat.reduceSub, Array.replicate_succ, Array.replicate_zero, List.push_toArray, List.append_toArray, List.nil_append, List.cons_append]
  gi_wp2_with (refine ⟨trivial, ?_⟩; gi_at_call 45; refine (callsIn_wide.2 (falling_calls x _)).mono ?_; rintro e w' ⟨rfl, rfl⟩)
  have bM := Boxed.new w 3 (.int .i64 k)
  have bO := Boxed.new (w.alloc (.cells #[.int .i64 k] 3)) 23 (.slice none 0 0)
  have bN := Boxed.new ((w.alloc (.cells #[.int .i64 k] 3)).alloc (.cells #[.slice none 0 0] 23)) 25 (.int .u64 x)
  simp only [World.size_alloc] at bO bN
  obtain ⟨w0, hw0⟩ : ∃ w0, w0 = (w.alloc (.cells #[.int .i64 k] 3)) := ⟨_, rfl⟩
  have hB0 : Below (w.heap.size + 1) (w.alloc (.cells #[.int .i64 k] 3)) (((w.alloc (.cells #[.int .i64 k] 3)).alloc (.cells #[.slice none 0 0] 23)).alloc (.cells #[.int .u64 x] 25)) := ((Below.refl _ (w.alloc (.cells #[.int .i64 k] 3))).alloc (by simp) _).alloc (by simp) _
  have HT0 : Tb (w.alloc (.cells #[.int .i64 k] 3)) := HT.out.step (Fr.alloc (Fr.refl _ _) _)
  have hNw : Nw w w0 := by rw [hw0]; exact Fr.alloc (Fr.refl _ _) _
  have hs0 : w0.heap.size = w.heap.size + 1 := by rw [hw0]; simp
  rw [← hw0] at bM
  have hg : 0 < w.heap.size + 1 := Nat.lt_succ_of_lt (World.block_lt_of_cell? w _ (HT.out 0 (by decide)))
  refine wpIn_rangeFunc_ownG rfl (by decide) (gf := 48) (lb := #[.pointer (some ⟨w.heap.size + 1 + 1, 0, none⟩)]) rfl trivial (enters_of Tryd.func48 (by kernel_rfl) rfl)
    (fall_stops _ (by decide) (w.heap.size + 1 + 1) (w.heap.size + 1) x HX.out hg _ (by simp) (by simp <;> omega) bN.cell (HT0.below hg hB0)) belowK_t (belowK_b (by simp <;> omega)) (Below.refl _ _) (fun _ => rfl)
    (fun (pre : List Int) W => (pre.length < k ∧ ∃ v, Boxed W (w.heap.size + 1) 23 v ∧ W.ownsRow (w.heap.size + 1) 3 1 v pre.length (pre.map (Value.int .i64)) ∧ True) ∧ Below (w.heap.size + 1) w0 W)
    (fun c (pre : List Int) W => ((c = .exit 0 ∧ pre.length = k) ∧ ∃ v, Boxed W (w.heap.size + 1) 23 v ∧ W.ownsRow (w.heap.size + 1) 3 1 v pre.length (pre.map (Value.int .i64)) ∧ True) ∧ Below (w.heap.size + 1) w0 W)
    (OwnFrom.and (OwnFrom.and (ownFrom_pure _ (fun pre : List Int => pre.length < k)) (Own.from (holdsRow_own (w.heap.size + 1) (w.heap.size + 1) 23 3 1 (fun pre : List Int => pre.length) (fun pre : List Int => pre.map (Value.int .i64)) (fun _ _ => True)) _)) (ownFrom_below (by omega) (by simp <;> omega)))
    (fun c => OwnFrom.and (OwnFrom.and (ownFrom_pure _ (fun pre : List Int => c = .exit 0 ∧ pre.length = k)) (Own.from (holdsRow_own (w.heap.size + 1) (w.heap.size + 1) 23 3 1 (fun pre : List Int => pre.length) (fun pre : List Int => pre.map (Value.int .i64)) (fun _ _ => True)) _)) (ownFrom_below (by omega) (by simp <;> omega)))
    ⟨⟨by simp; omega, _, bO.alloc _, World.ownsRow_nil _ _ _ _, trivial⟩, by rw [hw0]; exact hB0⟩
    (fun y => { tmps := #[.int .u64 x, .bool false, .int .i64 k, undef, undef, .pointer (some ⟨w.heap.size, 0, none⟩), .slice none 0 0, .pointer (some ⟨w.heap.size + 1, 0, none⟩), .func (.func 48) #[] #[.pointer (some ⟨w.heap.size + 1 + 1, 0, none⟩)], .int .i64 y, .int .u64 x, .func (.func 48) #[] #[.pointer (some ⟨w.heap.size + 1 + 1, 0, none⟩)], .bool false, undef, undef, .func (.func 48) #[] #[.pointer (some ⟨w.heap.size + 1 + 1, 0, none⟩)], .int .i64 y, undef, undef, undef, undef, undef, undef, undef, undef, undef], defers := [] }) ?assign ?body ?done ?stop
  case assign =>
    intro l y W K hK
    gi_wp2
    exact hK
  case body =>
    rintro l pre y W ⟨⟨hlt, v, hv, hrow, _⟩, hB⟩ _
    have hc := hv.cell
    have hBs := hB.size
    clear hB0 bO bN HT0 hw0
    gi_wp2_with (gi_at_builtin; refine wpListIn_append_own _ rfl _ _ 23 rfl (w.heap.size + 1) 3 i0 (.int .i64 0) 1 8 Tryd.underlying23 hi hz0 hz1 hz2 rfl (by decide) _ _ _ rfl (hrow.alloc _) ⟨W.heap.size, 0, none⟩ 1 1 [.int .i64 y] rfl rfl (cell_one_new _ _ _) (by simp [Value.oneCell']) (by have hM : maxLen = 9223372036854775807 := rfl; omega) (by omega) (by simp <;> omega) ?_; intro v' w1 hown' hgrow _; obtain ⟨g', cap', rfl⟩ := ownsRow_succ hown'; obtain ⟨hv1, hv2, hr2, hk2, hb2⟩ := hv.appended (by decide) hrow (by omega) (Nat.le_refl _) hown' hgrow; have hc1 := hv1.cell; have hf1 := hv1.frozen; have hvc2 := hv2.cell; have hmc2 := ((hB.trans hb2).cell (p := ⟨w.heap.size, 0, none⟩) (Nat.lt_succ_self _)).trans bM.cell)
    · rename_i hx
      have hq : pre.length + 1 = k := by simp at hx; omega
      exact ⟨hk2.from _, ⟨⟨rfl, by simpa using hq⟩, _, hv2, by simpa using hr2, trivial⟩, hB.trans hb2⟩
    · rename_i hx
      have hq : ¬ pre.length + 1 = k := by simp at hx; omega
      exact ⟨hk2.from _, hb2, ⟨by simp; omega, _, hv2, by simpa using hr2, trivial⟩, hB.trans hb2⟩
  case done =>
    rintro D ys W hD hys ⟨⟨hlt, v, hv, hrow, _⟩, hB⟩ hK
    have hE : ((listW x).reverse).take k = ys := by rw [← hys]; exact List.take_of_length_le (by omega)
    have hBl := hB.trans (belowK_b (w := w0) (by omega) W D _ (.deferred none) (by simp at hD; omega) hK rfl rfl)
    have hR : Kd.R (Kd.int .i64) 3 (W.putObj D (.deferred none)) (w.heap.size + 1) (fun _ => True) v ys := Kd.R_of_own (ownsRow_putObj hrow _ hK rfl) (fun _ _ => trivial)
    obtain ⟨A, c, rfl, _, hC⟩ := Kd.R_reads hR
    have hc := hv.cell
    have HE := Lib.hid hE
    clear hB0 bO bN HT0 hw0 hE hys
    gi_wp2
    refine ⟨by simp, .inl ⟨_, _, rfl, run_takeDeferred hK, ?_⟩⟩
    refine ⟨_, results_tmp rfl _ _ _, A, c, ?_, ?_, hNw.trans (Fr.of_below (by rw [hs0]; exact hBl))⟩
    · rw [HE.out]; rfl
    · rw [HE.out]; exact hC
  case stop =>
    rintro D c pre W hD hpre ⟨⟨⟨rfl, hlen⟩, v, hv, hrow, _⟩, hB⟩ hK
    have hE : ((listW x).reverse).take k = pre := by rw [← hlen]; exact (List.prefix_iff_eq_take.1 hpre).symm
    have hBl := hB.trans (belowK_b (w := w0) (by omega) W D _ (.deferred none) (by simp at hD; omega) hK rfl rfl)
    have hR : Kd.R (Kd.int .i64) 3 (W.putObj D (.deferred none)) (w.heap.size + 1) (fun _ => True) v pre := Kd.R_of_own (ownsRow_putObj hrow _ hK rfl) (fun _ _ => trivial)
    obtain ⟨A, c, rfl, _, hC⟩ := Kd.R_reads hR
    have hc := hv.cell
    have HE := Lib.hid hE
    clear hB0 bO bN HT0 hw0 hE hlen
    gi_wp2
    refine ⟨by simp, .inl ⟨_, _, rfl, run_takeDeferred hK, ?_⟩⟩
    refine ⟨_, results_tmp rfl _ _ _, A, c, ?_, ?_, hNw.trans (Fr.of_below (by rw [hs0]; exact hBl))⟩
    · rw [HE.out]; rfl
    · rw [HE.out]; exact hC

set_option maxRecDepth 100000 in
set_option maxHeartbeats 4000000 in
theorem walk_up (x k : Nat) (w : World) (hx : x < 18446744073709551616) (hk1 : 1 ≤ k) (hk2 : k ≤ 70) (hT : Tb w) :
    Calls Tryd.prog 39 #[.int .u64 x, .bool true, .int .i64 k] w fun e w' => ∃ A c, e = .returned (.slice A ((listW x).take k).length c) ∧ Kd.C (Kd.int .i64) w' A ((listW x).take k).length ((listW x).take k) ∧ Nw w w' := by
  have HT := Lib.hid hT
  have HX := Lib.hid hx
  clear hT hx
  obtain ⟨i0, hi, hz0, hz1, hz2⟩ := info_parts info_i64
  refine (callsIn_wide (n := 3)).1 ?_
  refine callsIn_of_wp_marks Tryd.func39 rfl trivial ?_ rfl
  simp only [Tryd.ntmps39, List.size_toArray, List.length_cons, List.length_nil, Nat.reduceAdd, Nat.reduceSub, Array.replicate_succ, Array.replicate_zero, List.push_toArray, List.append_toArray, List.nil_append, List.cons_append]
  gi_wp2_with (first | (refine ⟨trivial, ?_⟩; gi_at_call 45; refine (callsIn_wide.2 (falling_calls x _)).mono ?_; rintro e w' ⟨rfl, rfl⟩) | (refine ⟨trivial, ?_⟩; gi_at_call 46; refine (callsIn_wide.2 (rising_calls x _)).mono ?_; rintro e w' ⟨rfl, rfl⟩))
  have bM := Boxed.new w 3 (.int .i64 k)
  have bO := Boxed.new (w.alloc (.cells #[.int .i64 k] 3)) 23 (.slice none 0 0)
  have bN := Boxed.new (((w.alloc (.cells #[.int .i64 k] 3)).alloc (.cells #[.slice none 0 0] 23)).alloc (.cells #[.int .u64 x] 25)) 25 (.int .u64 x)
  simp only [World.size_alloc] at bO bN
  obtain ⟨w0, hw0⟩ : ∃ w0, w0 = (w.alloc (.cells #[.int .i64 k] 3)) := ⟨_, rfl⟩
  have hB0 : Below (w.heap.size + 1) (w.alloc (.cells #[.int .i64 k] 3)) ((((w.alloc (.cells #[.int .i64 k] 3)).alloc (.cells #[.slice none 0 0] 23)).alloc (.cells #[.int .u64 x] 25)).alloc (.cells #[.int .u64 x] 25)) := (((Below.refl _ (w.alloc (.cells #[.int .i64 k] 3))).alloc (by simp) _).alloc (by simp) _).alloc (by simp <;> omega) _
  have HT0 : Tb (w.alloc (.cells #[.int .i64 k] 3)) := HT.out.step (Fr.alloc (Fr.refl _ _) _)
  have hNw : Nw w w0 := by rw [hw0]; exact Fr.alloc (Fr.refl _ _) _
  have hs0 : w0.heap.size = w.heap.size + 1 := by rw [hw0]; simp
  rw [← hw0] at bM
  have hg : 0 < w.heap.size + 1 := Nat.lt_succ_of_lt (World.block_lt_of_cell? w _ (HT.out 0 (by decide)))
  refine wpIn_rangeFunc_ownG rfl (by decide) (gf := 49) (lb := #[.pointer (some ⟨w.heap.size + 1 + 1 + 1, 0, none⟩)]) rfl trivial (enters_of Tryd.func49 (by kernel_rfl) rfl)
    (rise_stops _ (by decide) (w.heap.size + 1 + 1 + 1) (w.heap.size + 1) x HX.out hg _ (by simp) (by simp <;> omega) bN.cell (HT0.below hg hB0)) belowK_t (belowK_b (by simp <;> omega)) (Below.refl _ _) (fun _ => rfl)
    (fun (pre : List Int) W => (pre.length < k ∧ ∃ v, Boxed W (w.heap.size + 1) 23 v ∧ W.ownsRow (w.heap.size + 1) 3 1 v pre.length (pre.map (Value.int .i64)) ∧ True) ∧ Below (w.heap.size + 1) w0 W)
    (fun c (pre : List Int) W => ((c = .exit 0 ∧ pre.length = k) ∧ ∃ v, Boxed W (w.heap.size + 1) 23 v ∧ W.ownsRow (w.heap.size + 1) 3 1 v pre.length (pre.map (Value.int .i64)) ∧ True) ∧ Below (w.heap.size + 1) w0 W)
    (OwnFrom.and (OwnFrom.and (ownFrom_pure _ (fun pre : List Int => pre.length < k)) (Own.from (holdsRow_own (w.heap.size + 1) (w.heap.size + 1) 23 3 1 (fun pre : List Int => pre.length) (fun pre : List Int => pre.map (Value.int .i64)) (fun _ _ => True)) _)) (ownFrom_below (by omega) (by simp <;> omega)))
    (fun c => OwnFrom.and (OwnFrom.and (ownFrom_pure _ (fun pre : List Int => c = .exit 0 ∧ pre.length = k)) (Own.from (holdsRow_own (w.heap.size + 1) (w.heap.size + 1) 23 3 1 (fun pre : List Int => pre.length) (fun pre : List Int => pre.map (Value.int .i64)) (fun _ _ => True)) _)) (ownFrom_below (by omega) (by simp <;> omega)))
    ⟨⟨by simp; omega, _, (bO.alloc _).alloc _, World.ownsRow_nil _ _ _ _, trivial⟩, by rw [hw0]; exact hB0⟩
    (fun y => { tmps := #[.int .u64 x, .bool true, .int .i64 k, undef, undef, .pointer (some ⟨w.heap.size, 0, none⟩), .slice none 0 0, .pointer (some ⟨w.heap.size + 1, 0, none⟩), .func (.func 49) #[] #[.pointer (some ⟨w.heap.size + 1 + 1 + 1, 0, none⟩)], .int .i64 y, .int .u64 x, .func (.func 48) #[] #[.pointer (some ⟨w.heap.size + 1 + 1, 0, none⟩)], .bool true, .int .u64 x, .func (.func 49) #[] #[.pointer (some ⟨w.heap.size + 1 + 1 + 1, 0, none⟩)], .func (.func 49) #[] #[.pointer (some ⟨w.heap.size + 1 + 1 + 1, 0, none⟩)], .int .i64 y, undef, undef, undef, undef, undef, undef, undef, undef, undef], defers := [] }) ?assign ?body ?done ?stop
  case assign =>
    intro l y W K hK
    gi_wp2
    exact hK
  case body =>
    rintro l pre y W ⟨⟨hlt, v, hv, hrow, _⟩, hB⟩ _
    have hc := hv.cell
    have hBs := hB.size
    clear hB0 bO bN HT0 hw0
    gi_wp2_with (gi_at_builtin; refine wpListIn_append_own _ rfl _ _ 23 rfl (w.heap.size + 1) 3 i0 (.int .i64 0) 1 8 Tryd.underlying23 hi hz0 hz1 hz2 rfl (by decide) _ _ _ rfl (hrow.alloc _) ⟨W.heap.size, 0, none⟩ 1 1 [.int .i64 y] rfl rfl (cell_one_new _ _ _) (by simp [Value.oneCell']) (by have hM : maxLen = 9223372036854775807 := rfl; omega) (by omega) (by simp <;> omega) ?_; intro v' w1 hown' hgrow _; obtain ⟨g', cap', rfl⟩ := ownsRow_succ hown'; obtain ⟨hv1, hv2, hr2, hk2, hb2⟩ := hv.appended (by decide) hrow (by omega) (Nat.le_refl _) hown' hgrow; have hc1 := hv1.cell; have hf1 := hv1.frozen; have hvc2 := hv2.cell; have hmc2 := ((hB.trans hb2).cell (p := ⟨w.heap.size, 0, none⟩) (Nat.lt_succ_self _)).trans bM.cell)
    · rename_i hx
      have hq : pre.length + 1 = k := by simp at hx; omega
      exact ⟨hk2.from _, ⟨⟨rfl, by simpa using hq⟩, _, hv2, by simpa using hr2, trivial⟩, hB.trans hb2⟩
    · rename_i hx
      have hq : ¬ pre.length + 1 = k := by simp at hx; omega
      exact ⟨hk2.from _, hb2, ⟨by simp; omega, _, hv2, by simpa using hr2, trivial⟩, hB.trans hb2⟩
  case done =>
    rintro D ys W hD hys ⟨⟨hlt, v, hv, hrow, _⟩, hB⟩ hK
    have hE : (listW x).take k = ys := by rw [← hys]; exact List.take_of_length_le (by omega)
    have hBl := hB.trans (belowK_b (w := w0) (by omega) W D _ (.deferred none) (by simp at hD; omega) hK rfl rfl)
    have hR : Kd.R (Kd.int .i64) 3 (W.putObj D (.deferred none)) (w.heap.size + 1) (fun _ => True) v ys := Kd.R_of_own (ownsRow_putObj hrow _ hK rfl) (fun _ _ => trivial)
    obtain ⟨A, c, rfl, _, hC⟩ := Kd.R_reads hR
    have hc := hv.cell
    have HE := Lib.hid hE
    clear hB0 bO bN HT0 hw0 hE hys
    gi_wp2
    refine ⟨by simp, .inl ⟨_, _, rfl, run_takeDeferred hK, ?_⟩⟩
    refine ⟨_, results_tmp rfl _ _ _, A, c, ?_, ?_, hNw.trans (Fr.of_below (by rw [hs0]; exact hBl))⟩
    · rw [HE.out]; rfl
    · rw [HE.out]; exact hC
  case stop =>
    rintro D c pre W hD hpre ⟨⟨⟨rfl, hlen⟩, v, hv, hrow, _⟩, hB⟩ hK
    have hE : (listW x).take k = pre := by rw [← hlen]; exact (List.prefix_iff_eq_take.1 hpre).symm
    have hBl := hB.trans (belowK_b (w := w0) (by omega) W D _ (.deferred none) (by simp at hD; omega) hK rfl rfl)
    have hR : Kd.R (Kd.int .i64) 3 (W.putObj D (.deferred none)) (w.heap.size + 1) (fun _ => True) v pre := Kd.R_of_own (ownsRow_putObj hrow _ hK rfl) (fun _ _ => trivial)
    obtain ⟨A, c, rfl, _, hC⟩ := Kd.R_reads hR
    have hc := hv.cell
    have HE := Lib.hid hE
    clear hB0 bO bN HT0 hw0 hE hlen
    gi_wp2
    refine ⟨by simp, .inl ⟨_, _, rfl, run_takeDeferred hK, ?_⟩⟩
    refine ⟨_, results_tmp rfl _ _ _, A, c, ?_, ?_, hNw.trans (Fr.of_below (by rw [hs0]; exact hBl))⟩
    · rw [HE.out]; rfl
    · rw [HE.out]; exact hC

end Go.Proofs.YtkglhinlnkdajaaDoor
