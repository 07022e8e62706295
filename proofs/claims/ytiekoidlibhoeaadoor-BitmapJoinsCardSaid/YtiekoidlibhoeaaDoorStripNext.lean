/-
  strip's Next: the first set bit from a place on.
-/
import Derived.Test.YtiekoidlibhoeaaDoorStripCopy
namespace Go.Proofs.YtiekoidlibhoeaaDoor
open Go.RowKit Go.Shelf Go.Proofs.YtiekoidlibhoeaaDoorW.PrintWords Go.Proofs.YtiekoidlibhoeaaDoorW.PrintMore
attribute [local go_sem] Oper.semAt_some
set_option linter.unusedVariables false
set_option linter.unusedSimpArgs false

/-! ### the plain part -/
def nextP (B : Nat) : List (Nat × Nat) → Option Int
  | [] => none
  | y :: r => match listW (wordN B y.1 &&& y.2) with
    | [] => nextP B r
    | x :: _ => some (64 * (y.1 : Int) + x)
theorem nextP_append (B : Nat) (l m : List (Nat × Nat)) : nextP B (l ++ m) = (nextP B l).or (nextP B m) := by
  induction l with
  | nil => rfl
  | cons y r ih =>
    rw [List.cons_append, nextP, nextP]
    cases listW (wordN B y.1 &&& y.2) with
    | nil => exact ih
    | cons x _ => rfl
theorem part_list (B a e : Nat) (h2 : e ≤ 64 * (a / 64 + 1)) (h3 : a ≤ e) : (listW (wordN B (partN a e).1 &&& (partN a e).2)).map (fun x => 64 * ((a / 64 : Nat) : Int) + x) = bitsFrom B (e - a) a := by
  refine sorted_ext ?_ (bitsFrom_sorted _ _ _) (fun x => ?_)
  · rw [List.pairwise_map]
    exact (listW_sorted _).imp (fun h => by omega)
  · rw [List.mem_map, mem_bitsFrom]
    show (∃ y, y ∈ listW (wordN B (a / 64) &&& maskN _ _) ∧ _) ↔ _
    constructor
    · rintro ⟨y, hy, rfl⟩
      rw [mem_listW, Nat.testBit_and, tb_mask _ _ (by omega), tb_wordN, Bool.and_eq_true, Bool.and_eq_true, decide_eq_true_iff, decide_eq_true_iff] at hy
      obtain ⟨h4, h5, ⟨h6, h7⟩, h8⟩ := hy
      exact ⟨64 * (a / 64) + y.toNat, by omega, by omega, by omega, h7⟩
    · rintro ⟨j, rfl, h4, h5, h6⟩
      refine ⟨(j : Int) - 64 * ((a / 64 : Nat) : Int), ?_, by omega⟩
      rw [mem_listW, Nat.testBit_and, tb_mask _ _ (by omega), tb_wordN, Bool.and_eq_true, Bool.and_eq_true, decide_eq_true_iff, decide_eq_true_iff]
      refine ⟨by omega, by omega, ⟨by omega, ?_⟩, by omega⟩
      rw [show 64 * (a / 64) + ((j : Int) - 64 * ((a / 64 : Nat) : Int)).toNat = j by omega]
      exact h6
theorem next_parts (B b : Nat) : ∀ d a, b - a ≤ d → nextP B (partsL a b) = (bitsFrom B (b - a) a).head? := by
  intro d
  induction d with
  | zero => intro a h; rw [partsL_none a b (by omega), show b - a = 0 by omega]; rfl
  | succ d ih =>
    intro a h
    by_cases hlt : a < b
    · obtain ⟨e, he⟩ : ∃ e, e = min b (64 * (a / 64 + 1)) := ⟨_, rfl⟩
      have h2 : e ≤ 64 * (a / 64 + 1) := by omega
      have hl := part_list B a e h2 (by omega)
      rw [partsL_cons a b hlt, ← he, nextP, show b - a = (e - a) + (b - e) by omega, bits_split, show a + (e - a) = e by omega, ← hl]
      cases listW (wordN B (partN a e).1 &&& (partN a e).2) with
      | nil => exact ih e (by omega)
      | cons x _ => rfl
    · rw [partsL_none a b (by omega), show b - a = 0 by omega]; rfl
theorem next_listB (n B : Nat) (i : Int) : nextL (listB n B) i = ((bitsFrom B (64 * n - fromN i) (fromN i)).head?).getD (-1) := by
  rw [nextL_head]
  have h : (listB n B).filter (fun x => decide (i ≤ x)) = bitsFrom B (64 * n - fromN i) (fromN i) := by
    refine sorted_ext ((listB_sorted _ _).filter _) (bitsFrom_sorted _ _ _) (fun x => ?_)
    rw [List.mem_filter, mem_listB, mem_bitsFrom, decide_eq_true_iff]
    unfold fromN
    constructor
    · rintro ⟨⟨h1, h2, h3⟩, h4⟩; exact ⟨x.toNat, by omega, by omega, by omega, h3⟩
    · rintro ⟨j, rfl, h1, h2, h3⟩; exact ⟨⟨by omega, by omega, by simpa using h3⟩, by omega⟩
  rw [h]
  cases bitsFrom B (64 * n - fromN i) (fromN i) <;> rfl

/-! ### the walk -/
theorem put_cell {W : World} {b D : Nat} {t : TypeId} {v : Value} {o : Obj} (h : Boxed W b t v) (hD : W.heap[D]? = some o) (ho : o.isCells = false) (o' : Obj) : (W.putObj D o').cell? ⟨b, 0, none⟩ = some v := by
  have hne : b ≠ D := by
    rintro rfl
    rw [show W.heap[b]? = _ from h] at hD
    cases hD; cases ho
  have : (W.putObj D o').heap[b]? = some (.cells #[v] t (0, 0)) := (World.putObj_heap_other hne).trans h
  exact blk_cell this 0
set_option maxRecDepth 100000 in
set_option maxHeartbeats 4000000 in
theorem snext_calls (P : Option Addr) (q n B : Nat) (i : Int) (w : World) (h : SP w P q n B) (hT : Tb w) :
    Calls Tryd.prog 51 #[.pointer P, .int .i64 i] w fun e w' => e = .returned (.int .i64 (nextL (listB n B) i)) ∧ Nw w w' := by
  have HS := Lib.hid h
  have HT := Lib.hid hT
  have hn := h.le
  clear h hT
  refine (callsIn_wide (n := 3)).1 ?_
  refine callsIn_of_wp_marks Tryd.func51 rfl trivial ?_ rfl
  simp only [Tryd.ntmps51, List.size_toArray, List.length_cons, List.length_nil, Nat.reduceAdd, Nat.reduceSub, Array.replicate_succ, Array.replicate_zero, List.push_toArray, List.append_toArray, List.nil_append, List.cons_append]
  gi_wp2
  have bS := (Boxed.new w 60 (.pointer P)).alloc (.cells #[.int .i64 0] 3)
  have bR := Boxed.new (w.alloc (.cells #[.pointer P] 60)) 3 (.int .i64 0)
  have hN1 : Nw w ((w.alloc (.cells #[.pointer P] 60)).alloc (.cells #[.int .i64 0] 3)) := ((Fr.refl _ w).alloc _).alloc _
  have hsz1 : ((w.alloc (.cells #[.pointer P] 60)).alloc (.cells #[.int .i64 0] 3)).heap.size = w.heap.size + 2 := by simp
  simp only [World.size_alloc] at bR
  obtain ⟨w1, hw1⟩ : ∃ w1, w1 = (w.alloc (.cells #[.pointer P] 60)).alloc (.cells #[.int .i64 0] 3) := ⟨_, rfl⟩
  rw [← hw1] at bS bR hN1 hsz1 ⊢
  clear hw1
  have cS := bS.cell
  have HBits := Lib.hid (pbits_calls P q n B w1.drew (HS.out.nw hN1.drew))
  refine wpIn_wide.2 (wp_still 4 (by kernel_rfl) (by kernel_rfl) ?_)
  simp only [List.take_succ_cons, List.take_zero, List.drop_succ_cons, List.drop_zero]
  repeat still_step
  still_call (Calls.mono HBits.out (fun _ _ h => ⟨h.1, h.2.symm⟩))
  repeat still_step
  refine wpStill_nil ?_
  go_wp2_with (go_at_call 69; refine (parts_calls P i (64 * n : Nat) _).mono ?_; rintro e w' ⟨rfl, rfl⟩)
  gi_wp2
  have b1 := (((Boxed.new w1 60 (.pointer P)).alloc (.cells #[.int .i64 i] 3)).alloc (.cells #[.int .i64 (64 * (n : Int))] 3))
  have b2 := (Boxed.new (w1.alloc (.cells #[.pointer P] 60)) 3 (.int .i64 i)).alloc (.cells #[.int .i64 (64 * (n : Int))] 3)
  have b3 := Boxed.new ((w1.alloc (.cells #[.pointer P] 60)).alloc (.cells #[.int .i64 i] 3)) 3 (.int .i64 (64 * (n : Int)))
  have bS0 := ((bS.alloc (.cells #[.pointer P] 60)).alloc (.cells #[.int .i64 i] 3)).alloc (.cells #[.int .i64 (64 * (n : Int))] 3)
  have bR0 := ((bR.alloc (.cells #[.pointer P] 60)).alloc (.cells #[.int .i64 i] 3)).alloc (.cells #[.int .i64 (64 * (n : Int))] 3)
  have hN0 : Nw w (((w1.alloc (.cells #[.pointer P] 60)).alloc (.cells #[.int .i64 i] 3)).alloc (.cells #[.int .i64 (64 * (n : Int))] 3)).drew := (((hN1.alloc _).alloc _).alloc _).drew
  have hsz : (((w1.alloc (.cells #[.pointer P] 60)).alloc (.cells #[.int .i64 i] 3)).alloc (.cells #[.int .i64 (64 * (n : Int))] 3)).drew.heap.size = w.heap.size + 5 := by
    show (((w1.alloc _).alloc _).alloc _).heap.size = _
    simp [hsz1]
  simp only [World.size_alloc, hsz1] at b1 b2 b3
  have b1' : Boxed (((w1.alloc (.cells #[.pointer P] 60)).alloc (.cells #[.int .i64 i] 3)).alloc (.cells #[.int .i64 (64 * (n : Int))] 3)).drew (w.heap.size + 2) 60 (.pointer P) := b1
  have b2' : Boxed (((w1.alloc (.cells #[.pointer P] 60)).alloc (.cells #[.int .i64 i] 3)).alloc (.cells #[.int .i64 (64 * (n : Int))] 3)).drew (w.heap.size + 2 + 1) 3 (.int .i64 i) := b2
  have b3' : Boxed (((w1.alloc (.cells #[.pointer P] 60)).alloc (.cells #[.int .i64 i] 3)).alloc (.cells #[.int .i64 (64 * (n : Int))] 3)).drew (w.heap.size + 2 + 1 + 1) 3 (.int .i64 (64 * (n : Int))) := b3
  have bS' : Boxed (((w1.alloc (.cells #[.pointer P] 60)).alloc (.cells #[.int .i64 i] 3)).alloc (.cells #[.int .i64 (64 * (n : Int))] 3)).drew w.heap.size 60 (.pointer P) := bS0
  have bR' : Boxed (((w1.alloc (.cells #[.pointer P] 60)).alloc (.cells #[.int .i64 i] 3)).alloc (.cells #[.int .i64 (64 * (n : Int))] 3)).drew (w.heap.size + 1) 3 (.int .i64 0) := bR0
  obtain ⟨W0, hW0⟩ : ∃ W0, (((w1.alloc (.cells #[.pointer P] 60)).alloc (.cells #[.int .i64 i] 3)).alloc (.cells #[.int .i64 (64 * (n : Int))] 3)).drew = W0 := ⟨_, rfl⟩
  rw [hW0] at b1' b2' b3' bS' bR' hN0 hsz ⊢
  clear hW0 b1 b2 b3 bS0 bR0 bS bR hN1 hsz1 cS HBits
  have HS0 := Lib.hid (HS.out.nw hN0)
  refine wpIn_rangeFunc_ownH rfl (by decide) (gf := 84) (lb := #[.pointer (some ⟨w.heap.size + 2 + 1, 0, none⟩), .pointer (some ⟨w.heap.size + 2 + 1 + 1, 0, none⟩), .pointer (some ⟨w.heap.size + 2, 0, none⟩)]) rfl trivial (enters_of Tryd.func84 (by kernel_rfl) rfl)
    (parts_stops _ (by decide) (w.heap.size + 2) P q n B i (64 * (n : Int)) W0 HS0.out b1'.cell b2'.cell b3'.cell) (fun _ _ => trivial) (fun _ _ _ _ _ _ _ _ => trivial) (Below.refl _ _) (fun _ => rfl)
    (fun (pre : List (Part n)) W => (nextP B (pre.map (·.1)) = none ∧ (Boxed W (w.heap.size + 1) 3 (.int .i64 0) ∧ Boxed W w.heap.size 60 (.pointer P))) ∧ Nw w W)
    (fun c (pre : List (Part n)) W => (∃ v, (c = .ret ∧ nextP B (pre.map (·.1)) = some v) ∧ Boxed W (w.heap.size + 1) 3 (.int .i64 v)) ∧ Nw w W)
    (OwnFrom.and (OwnFrom.and (ownFrom_pure _ (fun pre : List (Part n) => nextP B (pre.map (·.1)) = none)) (OwnFrom.and (Own.from (boxed_own _ _ (fun _ => Value.int .i64 0)) _) (Own.from (boxed_own _ _ _) _))) (fr_own (by omega)))
    (fun c => OwnFrom.and (fun pre X Y row hs hg hr => by obtain ⟨v, h1, h2⟩ := hs; exact ⟨v, h1, own_blk hg hr h2⟩) (fr_own (by omega)))
    ⟨⟨rfl, bR', bS'⟩, hN0⟩
    (fun y a' W => ∃ Bx, w.heap.size + 1 < Bx ∧ W.heap[Bx]? = some (.cells #[.int .i64 (y.1.1 : Nat), .int .u64 (y.1.2 : Nat)] 93 (0, 0)) ∧ a' = { tmps := #[.pointer P, .int .i64 i, .pointer (some ⟨w.heap.size, 0, none⟩), undef, .pointer (some ⟨w.heap.size + 1, 0, none⟩), .pointer (some ⟨Bx, 0, none⟩), undef, .pointer P, .int .i64 i, .pointer P, .int .i64 (64 * (n : Int)), .func (.func 84) #[] #[.pointer (some ⟨w.heap.size + 2 + 1, 0, none⟩), .pointer (some ⟨w.heap.size + 2 + 1 + 1, 0, none⟩), .pointer (some ⟨w.heap.size + 2, 0, none⟩)], .agg #[.int .i64 (y.1.1 : Nat), .int .u64 (y.1.2 : Nat)], undef, undef, undef, undef, undef, undef, undef, undef, undef, undef, undef, undef, undef, undef, undef, undef, undef, undef, undef], defers := [] })
    (fun y a' _ X Y row hs hg hr => by obtain ⟨Bx, h1, h2, h3⟩ := hs; exact ⟨Bx, h1, own_blk hg hr h2, h3⟩)
    ?assign ?body ?done ?stop
  case assign =>
    rintro l pre y W K ⟨⟨hz, bN1, bS1⟩, hN1⟩ hK
    have hE : encPart n y = #[.agg #[.int .i64 (y.1.1 : Nat), .int .u64 (y.1.2 : Nat)]] := rfl
    rw [hE]
    gi_wp2
    exact hK _ _ ((KeepsOthers.alloc _ _).from _) trivial ⟨⟨hz, bN1.alloc _, bS1.alloc _⟩, hN1.alloc _⟩ ⟨W.heap.size, bN1.lt, blk_new _ _, rfl⟩
  case body =>
    rintro l pre y a' W hl _ ⟨⟨hz, bN1, bS1⟩, hN1⟩ ⟨Bx, hBx, bX, rfl⟩ hlt
    have hS1 := HS.out.nw hN1
    obtain ⟨p, hP, hSt⟩ := hS1.pos (by omega)
    subst hP
    obtain ⟨c, hw1, hw2, hw3⟩ := hSt.word y.2.1
    obtain ⟨hx1, hx2⟩ := parts_cell W Bx _ _ bX
    have fN := bN1.frozen
    have cN := bN1.cell
    have cS := bS1.cell
    have hsn : nextP B ((pre ++ [y]).map (·.1)) = nextP B [y.1] := by
      rw [List.map_append, nextP_append, hz]; rfl
    have ha := and_u64 (wordN B y.1.1) y.1.2 (wordN_lt _ _) y.2.2
    have hul := and_lt (wordN B y.1.1) _ y.2.2
    obtain ⟨⟨at', mk⟩, hat, hmk⟩ := y
    simp only at hx1 hx2 hw2 hw3 ha hat hul hsn ⊢
    have HSn := Lib.hid hsn
    have HC := Lib.hid (fun w' hT => low_calls (wordN B at' &&& mk) w' hul hT)
    have HTW := Lib.hid ((HT.out.step hN1).step ((Fr.refl _ W).drew))
    have hat2 : (at' : Int) < n := by omega
    have hn := HS.out.le
    cases hlu : listW (wordN B at' &&& mk) with
    | nil =>
      have HNone : Hid (nextP B [(at', mk)] = none) := Lib.hid (by simp only [nextP]; rw [hlu])
      rw [show lowN (wordN B at' &&& mk) = -1 by rw [lowN, hlu]; rfl] at HC
      obtain ⟨u, hu⟩ : ∃ u, u = wordN B at' &&& mk := ⟨_, rfl⟩
      rw [← hu] at ha HC
      obtain ⟨wd, hwd⟩ : ∃ wd, wd = wordN B at' := ⟨_, rfl⟩
      rw [← hwd] at hw2 ha
      clear hu hwd hlu hul hsn hSt hS1
      gi_wp2
      refine wpIn_round_still 12 (by kernel_rfl) (by rintro ⟨a, w, h⟩; exact h) (by kernel_rfl) (by kernel_rfl) ?_
      simp only [List.take_succ_cons, List.take_zero, List.drop_succ_cons, List.drop_zero]
      repeat still_step
      still_call (Calls.mono (HC.out _ HTW.out) (fun _ _ h => ⟨h.1, h.2.symm⟩))
      repeat still_step
      refine wpStill_nil ?_
      go_wp2
      gi_wp2
      have hkf := (KeepsOthers.refl W).from W0.heap.size
      exact ⟨⟨hkf.size, hkf.same⟩, trivial, ⟨by rw [HSn.out]; exact HNone.out, bN1, bS1⟩, hN1.drew⟩
    | cons x r =>
      have hxm : 0 ≤ x ∧ x < 64 := by
        have := (mem_listW (wordN B at' &&& mk) x).1 (by rw [hlu]; exact List.mem_cons_self)
        exact ⟨this.1, this.2.1⟩
      have HSome : Hid (nextP B [(at', mk)] = some (64 * (at' : Int) + x)) := Lib.hid (by simp only [nextP]; rw [hlu])
      rw [show lowN (wordN B at' &&& mk) = x by rw [lowN, hlu]; rfl] at HC
      obtain ⟨u, hu⟩ : ∃ u, u = wordN B at' &&& mk := ⟨_, rfl⟩
      rw [← hu] at ha HC
      obtain ⟨wd, hwd⟩ : ∃ wd, wd = wordN B at' := ⟨_, rfl⟩
      rw [← hwd] at hw2 ha
      clear hu hwd hlu hul hsn hSt hS1
      obtain ⟨hx0, hx64⟩ := hxm
      gi_wp2
      refine wpIn_round_still 12 (by kernel_rfl) (by rintro ⟨a, w, h⟩; exact h) (by kernel_rfl) (by kernel_rfl) ?_
      simp only [List.take_succ_cons, List.take_zero, List.drop_succ_cons, List.drop_zero]
      repeat still_step
      still_call (Calls.mono (HC.out _ HTW.out) (fun _ _ h => ⟨h.1, h.2.symm⟩))
      repeat still_step
      refine wpStill_nil ?_
      go_wp2
      gi_wp2
      have hkf := (KeepsOthers.setCell W ⟨w.heap.size + 1, 0, none⟩ (Value.int .i64 (64 * (at' : Int) + x))).from W0.heap.size
      exact ⟨⟨hkf.size, hkf.same⟩, ⟨_, ⟨rfl, by rw [HSn.out]; exact HSome.out⟩, bN1.set (.int .i64 (64 * (at' : Int) + x))⟩, (hN1.setN (b := w.heap.size + 1) (by omega) 0 _).drew⟩
  case done =>
    rintro D ys W hD hys ⟨⟨hz, bN1, bS1⟩, hN1⟩ hK
    have cN := bN1.cell
    have fN := bN1.frozen
    have HV : Hid (nextL (listB n B) i = -1) := Lib.hid (by
      have e : toN (64 * (n : Int)) (64 * n) = 64 * n := by unfold toN; omega
      rw [next_listB]
      rw [hys, e, next_parts B _ _ _ (Nat.le_refl _)] at hz
      rw [hz]; rfl)
    clear hz hys
    gi_wp2
    have hK2 : (W.setCell ⟨w.heap.size + 1, 0, none⟩ (Value.int .i64 (-1))).heap[D]? = some (.deferred (some [])) := blk_far hK (by show D ≠ w.heap.size + 1; omega) _
    have bN2 : Boxed (W.setCell ⟨w.heap.size + 1, 0, none⟩ (Value.int .i64 (-1))) (w.heap.size + 1) 3 (.int .i64 (-1)) := bN1.set _
    have hN2 : Nw w (W.setCell ⟨w.heap.size + 1, 0, none⟩ (Value.int .i64 (-1))) := hN1.setN (b := w.heap.size + 1) (by omega) 0 _
    have hcell := put_cell bN2 hK2 rfl (.deferred none)
    refine ⟨by simp, .inl ⟨_, _, rfl, run_takeDeferred hK2, ?_⟩⟩
    exact ⟨_, by simp [results, Tryd.results51, go_sem, hcell]; try rfl, by rw [HV.out], Fr.of_below ((hN2.below (fun _ _ h => h)).trans (belowK_b (w := w) (Nat.le_refl _) _ D _ (.deferred none) (by omega) hK2 rfl rfl))⟩
  case stop =>
    rintro D c pre W hD hpre ⟨⟨v, ⟨rfl, hv⟩, bN1⟩, hN1⟩ hK
    have HV : Hid (nextL (listB n B) i = v) := Lib.hid (by
      have e : toN (64 * (n : Int)) (64 * n) = 64 * n := by unfold toN; omega
      rw [next_listB]
      obtain ⟨r, hr⟩ := hpre
      have := next_parts B (64 * n) _ (fromN i) (Nat.le_refl _)
      rw [e] at hr
      rw [← hr, nextP_append, hv] at this
      rw [← this]; rfl)
    clear hv hpre
    gi_wp2
    have hcell := put_cell bN1 hK rfl (.deferred none)
    refine ⟨by simp, .inl ⟨_, _, rfl, run_takeDeferred hK, ?_⟩⟩
    exact ⟨_, by simp [results, Tryd.results51, go_sem, hcell]; try rfl, by rw [HV.out], Fr.of_below ((hN1.below (fun _ _ h => h)).trans (belowK_b (w := w) (Nat.le_refl _) _ D _ (.deferred none) (by omega) hK rfl rfl))⟩

end Go.Proofs.YtiekoidlibhoeaaDoor
