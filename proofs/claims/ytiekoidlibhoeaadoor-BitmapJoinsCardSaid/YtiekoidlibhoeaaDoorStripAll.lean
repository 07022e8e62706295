/-
  strip's All: its iterator's contract; the law's loop over it (all).
-/
import Derived.Maps.AppendAt
import Derived.Test.YtiekoidlibhoeaaDoorStripNext
namespace Go.Proofs.YtiekoidlibhoeaaDoor
open Go.RowKit Go.Shelf Go.Proofs.YtiekoidlibhoeaaDoorW.PrintWords Go.Proofs.YtiekoidlibhoeaaDoorW.PrintMore
attribute [local go_sem] Oper.semAt_some
set_option linter.unusedVariables false
set_option linter.unusedSimpArgs false

/-! ### the plain part -/
theorem next_from (n B : Nat) (i : Int) (h : nextL (listB n B) i = -1) : bitsFrom B (64 * n - fromN i) (fromN i) = [] := by
  rw [next_listB] at h
  cases hl : bitsFrom B (64 * n - fromN i) (fromN i) with
  | nil => rfl
  | cons x r =>
    rw [hl] at h
    have hm : x ∈ bitsFrom B (64 * n - fromN i) (fromN i) := by rw [hl]; exact List.mem_cons_self
    rw [mem_bitsFrom] at hm
    obtain ⟨j, rfl, _⟩ := hm
    have h : (j : Int) = -1 := h
    omega
theorem next_cut (n B k : Nat) (h : nextL (listB n B) k ≠ -1) : ∃ j : Nat, nextL (listB n B) k = j ∧ k ≤ j ∧ j < 64 * n ∧ bitsFrom B (64 * n - k) k = (j : Int) :: bitsFrom B (64 * n - (j + 1)) (j + 1) := by
  rw [next_listB] at h ⊢
  have ef : fromN (k : Int) = k := by unfold fromN; omega
  rw [ef] at h ⊢
  cases hl : bitsFrom B (64 * n - k) k with
  | nil => rw [hl] at h; exact absurd rfl h
  | cons x r =>
    have hm : x ∈ bitsFrom B (64 * n - k) k := by rw [hl]; exact List.mem_cons_self
    rw [mem_bitsFrom] at hm
    obtain ⟨j, rfl, h1, h2, h3⟩ := hm
    refine ⟨j, rfl, h1, by omega, ?_⟩
    have hs : bitsFrom B (64 * n - k) k = bitsFrom B (j - k) k ++ ((j : Int) :: bitsFrom B (64 * n - (j + 1)) (j + 1)) := by
      rw [show 64 * n - k = (j - k) + (1 + (64 * n - (j + 1))) by omega, bits_split, show k + (j - k) = j by omega, bits_split]
      simp only [bitsFrom, h3, if_true, List.nil_append, List.append_nil, List.singleton_append]
    have hz : bitsFrom B (j - k) k = [] := by
      cases hc : bitsFrom B (j - k) k with
      | nil => rfl
      | cons y t =>
        rw [hc, hl] at hs
        have hy : y ∈ bitsFrom B (j - k) k := by rw [hc]; exact List.mem_cons_self
        rw [mem_bitsFrom] at hy
        obtain ⟨j2, rfl, h4, h5, _⟩ := hy
        simp at hs
        omega
    rw [hz, hl] at hs
    exact hs

def measA (D : Nat) (x : Int) : Nat := if x < 0 then 0 else D + 1 - x.toNat
theorem measA_lt (D j : Nat) (x : Int) (h : x = -1 ∨ (j : Int) < x) (hx : x = -1 ∨ (0 ≤ x ∧ x < (D : Int))) (hj : j < D) : measA D x < measA D j := by
  unfold measA
  rw [if_neg (show ¬ (j : Int) < 0 by omega)]
  by_cases h0 : x < 0
  · rw [if_pos h0]; omega
  · rw [if_neg h0]; omega

theorem all_calls' (P : Option Addr) (w : World) : Calls Tryd.prog 63 #[.pointer P] w fun e w' => e = .returned (.func (.func 80) #[] #[.pointer (some ⟨w.heap.size, 0, none⟩)]) ∧ w' = w.alloc (.cells #[.pointer P] 60) := by
  go_enter Tryd.func63, Tryd.ntmps63
  go_wp2
  go_ret
  exact ⟨rfl, rfl⟩

/-- What a round keeps: whatever lies below n₀, and block Bn. -/
def KpA (n₀ Bn : Nat) (W W' : World) : Prop := Below n₀ W W' ∧ W'.heap[Bn]? = W.heap[Bn]?
theorem KpA.trans {n₀ Bn : Nat} {A B C : World} (h : KpA n₀ Bn A B) (k : KpA n₀ Bn B C) : KpA n₀ Bn A C := ⟨h.1.trans k.1, k.2.trans h.2⟩
theorem KpA.nw {n₀ Bn : Nat} {W W' : World} (hf : Nw W W') (hn : n₀ ≤ W.heap.size) (hB : Bn < W.heap.size) : KpA n₀ Bn W W' := ⟨(hf.below (fun _ _ h => h)).mono hn, hf.block Bn hB (fun h => h)⟩
theorem KpA.cell {n₀ Bn : Nat} {W W' : World} (h : KpA n₀ Bn W W') {v : Value} (hc : W.cell? ⟨Bn, 0, none⟩ = some v) : W'.cell? ⟨Bn, 0, none⟩ = some v := (World.cell?_of_block (w := W) h.2).trans hc
theorem KpA.b {n₀ Bn : Nat} {w : World} (hn : n₀ ≤ w.heap.size) (hB : Bn < w.heap.size) (W : World) (l : Nat) (o o' : Obj) (hl : w.heap.size ≤ l) (h : W.heap[l]? = some o) (h1 : o.isCells = false) (h2 : o.isWalk = false) : KpA n₀ Bn W (W.putObj l o') :=
  ⟨belowK_b hn W l o o' hl h h1 h2, World.putObj_heap_other (by omega)⟩

set_option maxRecDepth 100000 in
set_option maxHeartbeats 2000000 in
theorem all_in (m : Nat) (hm : 1 ≤ m) (l Bn n₀ : Nat) (P : Option Addr) (q n B : Nat) (hn : n ≤ 4096) (J Jx : List Int → World → Prop)
    (hJ : ∀ ys W W', J ys W → Nw W W' → J ys W')
    (hY : ∀ pre y W, J pre W → pre.length < (listB n B).length → YieldAt Fence.wide (m - 1) Tryd.prog l #[.int .i64 y] W fun e W' =>
      (e = .returned (.bool true) ∧ J (pre ++ [y]) W' ∧ KpA n₀ Bn W W') ∨ (e = .returned (.bool false) ∧ Jx (pre ++ [y]) W'))
    (W : World) (hBn : W.cell? ⟨Bn, 0, none⟩ = some (.pointer P)) (hBl : Bn < W.heap.size) (hS : SP W P q n B) (hSl : ∀ W', Below n₀ W W' → SP W' P q n B) (hT : Tb W) (hg : 0 < n₀) (hn₀ : n₀ ≤ W.heap.size) (h0 : J [] W) :
    CallsIn Fence.wide m Tryd.prog 80 #[.func (.yield l) #[] #[], .pointer (some ⟨Bn, 0, none⟩)] W fun e W' => (∃ v, e = .returned v) ∧
      ((∃ ys, ys = listB n B ∧ J ys W') ∨ (∃ pre, pre <+: listB n B ∧ Jx pre W')) := by
  have HJn := Lib.hid hJ
  have HT := Lib.hid hT
  have HY := Lib.hid hY
  have H0 := Lib.hid h0
  have HS := Lib.hid hS
  have HSl := Lib.hid hSl
  have HBn := Lib.hid hBn
  have HX := Lib.hid (fun i W h hT => snext_calls P q n B i W h hT)
  clear hJ hT hY h0 hS hSl
  refine callsIn_of_wp Tryd.func80 rfl trivial ?_ rfl
  simp only [Tryd.ntmps80, List.size_toArray, List.length_cons, List.length_nil, Nat.reduceAdd, Nat.reduceSub, Array.replicate_succ, Array.replicate_zero, List.push_toArray, List.append_toArray, List.nil_append, List.cons_append]
  gi_wp2_with (refine ⟨trivial, ?_⟩; gi_at_call 51; refine (callsIn_wide.2 (HX.out 0 _ HS.out HT.out)).mono ?_; rintro e W1 ⟨rfl, hF⟩)
  have hB1 : KpA n₀ Bn W W1 := KpA.nw hF hn₀ hBl
  have HJ1 := Lib.hid (HJn.out [] W W1 H0.out hF)
  have HB1 := Lib.hid hB1
  have hxb : ∀ k : Nat, nextL (listB n B) k = -1 ∨ (0 ≤ nextL (listB n B) k ∧ nextL (listB n B) k < ((64 * n : Nat) : Int)) := fun k => by
    by_cases h : nextL (listB n B) k = -1
    · exact .inl h
    · obtain ⟨j, h1, _, h2, _⟩ := next_cut n B k h
      right; rw [h1]; omega
  have HXb := Lib.hid hxb
  have hx0 := hxb 0
  have hc1 := hB1.cell hBn
  obtain ⟨x0, hx0e⟩ : ∃ x, x = nextL (listB n B) 0 := ⟨_, rfl⟩
  rw [show nextL (listB n B) ((0 : Nat) : Int) = x0 from hx0e.symm] at hx0
  rw [← hx0e]
  have HX0 := Lib.hid hx0e
  clear hx0e hF hB1 hxb H0 hc1
  gi_wp2
  gi_loopw [3] (fun p wr => ∃ (k : Nat) (x : Int) (pre : List Int), p = .int .i64 x ∧ k ≤ 64 * n ∧ (x = -1 ∨ (0 ≤ x ∧ x < ((64 * n : Nat) : Int))) ∧ Hid (x = nextL (listB n B) k) ∧ Hid (listB n B = pre ++ bitsFrom B (64 * n - k) k) ∧ Hid (J pre wr) ∧ Hid (KpA n₀ Bn W wr))
    (fun p _ => measA (64 * n) (intOf p))
  case atStart => exact ⟨0, x0, [], rfl, Nat.zero_le _, hx0, HX0, Lib.hid rfl, HJ1, HB1⟩
  case round =>
    obtain ⟨k, x, pre, rfl, hk, hx, HXe, HL, HJ, HB⟩ := hrel
    by_cases h : x < 0
    · have HE : Hid (pre = listB n B) := Lib.hid (by
        have h1 : x = -1 := by omega
        have e : fromN (k : Int) = k := by unfold fromN; omega
        have := next_from n B k (by rw [← HXe.out]; exact h1)
        rw [e] at this
        rw [HL.out, this, List.append_nil])
      clear HL
      gi_wp2
      go_end0
      exact ⟨⟨_, rfl⟩, .inl ⟨pre, HE.out, HJ.out⟩⟩
    · obtain ⟨j, h1, h2, h3, h4⟩ := next_cut n B k (by rw [← HXe.out]; omega)
      have hxj : x = (j : Int) := by rw [HXe.out]; exact h1
      subst hxj
      have HCut := Lib.hid h4
      obtain ⟨fn, tmps, assign, body, hy, hR⟩ := HY.out pre j wr HJ.out (by rw [HL.out, h4]; simp)
      clear h1 h4
      gi_wp2_with (fail)
      refine hR.mono ?_
      rintro e W3 (⟨rfl, hJ3, hk3⟩ | ⟨rfl, hJx3⟩)
      · have HJ3 := Lib.hid hJ3
        have HB3 := Lib.hid (HB.out.trans hk3)
        have hc3 := HB3.out.cell HBn.out
        have hn3 : n₀ ≤ W3.heap.size := Nat.le_trans hn₀ HB3.out.1.size
        have hb3 : Bn < W3.heap.size := Nat.lt_of_lt_of_le hBl HB3.out.1.size
        have hT3 : Tb W3 := fun i hi => (HB3.out.1.cell (p := ⟨0, _, none⟩) hg).trans (HT.out i hi)
        have HT3 := Lib.hid hT3
        have HX3 := Lib.hid (HX.out ((j + 1 : Nat) : Int) W3 (HSl.out _ HB3.out.1) hT3)
        have hxx := HXb.out (j + 1)
        have HNx : Hid (nextL (listB n B) ((j + 1 : Nat) : Int) = -1 ∨ (j : Int) < nextL (listB n B) ((j + 1 : Nat) : Int)) := Lib.hid (by
          by_cases h : nextL (listB n B) ((j + 1 : Nat) : Int) = -1
          · exact .inl h
          · obtain ⟨j2, h1, h2, _⟩ := next_cut n B (j + 1) h
            right; rw [h1]; omega)
        obtain ⟨x3, hx3⟩ : ∃ x, x = nextL (listB n B) ((j + 1 : Nat) : Int) := ⟨_, rfl⟩
        rw [← hx3] at HX3 hxx HNx
        rw [show ((j + 1 : Nat) : Int) = (j : Int) + 1 by omega] at HX3
        have HX3e := Lib.hid hx3
        clear hJ3 hk3 hy hR HJ hx3 hT3
        gi_wp2_with (refine ⟨trivial, ?_⟩; gi_at_call 51; refine (callsIn_wide.2 HX3.out).mono ?_; rintro e W4 ⟨rfl, hF4⟩; have HJ4 := Lib.hid (HJn.out _ _ _ HJ3.out hF4); have HB4 := Lib.hid (HB3.out.trans (KpA.nw hF4 hn3 hb3)); clear hF4)
        have hnx := HNx.out
        go_roundw
        case rel => exact ⟨j + 1, x3, pre ++ [(j : Int)], rfl, by omega, hxx, HX3e, Lib.hid (by rw [HL.out, HCut.out]; simp), HJ4, HB4⟩
        case measure =>
          exact measA_lt (64 * n) j x3 hnx hxx h3
      · have HJ3 := Lib.hid hJx3
        clear hJx3 hy hR HJ
        gi_wp2
        refine bodyPost_ret (results_none rfl _ _ _) rfl ?_
        exact ⟨⟨_, rfl⟩, .inr ⟨pre ++ [(j : Int)], ⟨bitsFrom B (64 * n - (j + 1)) (j + 1), by rw [HL.out, HCut.out]; simp⟩, HJ3.out⟩⟩


theorem all_stops (m : Nat) (hm : 1 ≤ m) (Bn n₀ : Nat) (P : Option Addr) (q n B : Nat) (w : World) (hBl : Bn < w.heap.size) (hn₀ : n₀ ≤ w.heap.size) (hg : 0 < n₀) (hBn : w.cell? ⟨Bn, 0, none⟩ = some (.pointer P)) (hS : SP w P q n B)
    (hSl : ∀ W', Below n₀ w W' → SP W' P q n B) (hT : Tb w) :
    SeqStopsK Fence.wide m Tryd.prog 80 #[.pointer (some ⟨Bn, 0, none⟩)] (fun y : Int => #[Value.int .i64 y]) (KpA n₀ Bn) (fun ys => ys = listB n B) (fun pre => pre <+: listB n B) (listB n B).length w := fun l J Jx W hW hJ _ hY h0 => by
  have hb : Below n₀ w W := hW.mono hn₀
  refine all_in m hm l Bn n₀ P q n B hS.le J Jx ?_ hY W ((hW.cell (p := ⟨Bn, 0, none⟩) hBl).trans hBn) (Nat.lt_of_lt_of_le hBl hW.size) (hSl W hb) (fun W' h => hSl W' (hb.trans h)) (fun i hi => (hb.cell (p := ⟨0, _, none⟩) hg).trans (hT i hi)) hg (Nat.le_trans hn₀ hb.size) h0
  intro ys X Y h hf
  exact hJ ys X Y none h ⟨hf.os, hf.tape, hf.output, hf.size, fun k hk _ => hf.block k hk (fun h => h)⟩ (fun r e => by cases e)



end Go.Proofs.YtiekoidlibhoeaaDoor
