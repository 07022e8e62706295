/-
  bitmap's All: its iterator's contract (it ranges over strip's own iterator); the law's loop over it (all).
-/
import Derived.Maps.AppendAt
import Derived.Test.YtiekoidlibhoeaaDoorSeqO
import Derived.Test.YtiekoidlibhoeaaDoorBm2
namespace Go.Proofs.YtiekoidlibhoeaaDoor
open Go.RowKit Go.Shelf Go.Proofs.YtiekoidlibhoeaaDoorW.PrintWords Go.Proofs.YtiekoidlibhoeaaDoorW.PrintMore
attribute [local go_sem] Oper.semAt_some
set_option linter.unusedVariables false
set_option linter.unusedSimpArgs false

theorem round_any {m m' : Nat} {P : Program} {l : Nat} {f : FuncId} {tmps : Array Value} {assign body : Code} {w : World} {R : Ending → World → Prop}
    (h : RoundIn Fence.wide m P l f tmps assign body w R) : RoundIn Fence.wide m' P l f tmps assign body w R := ⟨h.1, fun c cs _ => h.2 c cs (fun d h => by cases h)⟩

/-- What a round keeps: whatever lies below n₀; the boxes of a strip and of a yield. -/
def KpT (n₀ : Nat) (W W' : World) : Prop := Below n₀ W W' ∧ ∀ (k : Nat) (cs : Array Value) (t : TypeId) (m : Nat × Nat), (t = 60 ∨ t = 44) → W.heap[k]? = some (Obj.cells cs t m) → W'.heap[k]? = some (Obj.cells cs t m)
theorem KpT.trans {n₀ : Nat} {A B C : World} (h : KpT n₀ A B) (k : KpT n₀ B C) : KpT n₀ A C := ⟨h.1.trans k.1, fun j cs t m ht hb => k.2 j cs t m ht (h.2 j cs t m ht hb)⟩
theorem KpT.b {n₀ : Nat} {w : World} (hn : n₀ ≤ w.heap.size) (W : World) (l : Nat) (o o' : Obj) (hl : w.heap.size ≤ l) (h : W.heap[l]? = some o) (h1 : o.isCells = false) (h2 : o.isWalk = false) : KpT n₀ W (W.putObj l o') :=
  ⟨belowK_b hn W l o o' hl h h1 h2, fun k cs t m _ hb => (World.putObj_heap_other (by rintro rfl; rw [h] at hb; cases hb; cases h1)).trans hb⟩
def enc16 (y : Int) : Array Value := #[.int .u16 (IntKind.u16.wrap y)]

theorem bmall_calls' (P : Option Addr) (w : World) : Calls Tryd.prog 41 #[.pointer P] w fun e w' => e = .returned (.func (.func 62) #[] #[.pointer (some ⟨w.heap.size, 0, none⟩)]) ∧ w' = w.alloc (.cells #[.pointer P] 25) := by
  go_enter Tryd.func41, Tryd.ntmps41
  go_wp2
  go_ret
  exact ⟨rfl, rfl⟩

set_option maxRecDepth 100000 in
set_option maxHeartbeats 4000000 in
theorem bmall_seq (m : Nat) (hm : 4 ≤ m) (Bn n₀ : Nat) (P : Option Addr) (p q B : Nat) (w : World) (hBl : Bn < w.heap.size) (hn₀ : n₀ ≤ w.heap.size) (hg : 0 < n₀) (hBn : w.cell? ⟨Bn, 0, none⟩ = some (.pointer P))
    (hSl : ∀ W', Below n₀ w W' → BP W' P p q B) (hT : Tb w) :
    SeqO Fence.wide m Tryd.prog 62 #[.pointer (some ⟨Bn, 0, none⟩)] enc16 (KpT n₀) (fun ys => ys = listB 1024 B) (fun pre => pre <+: listB 1024 B) (listB 1024 B).length w := by
  intro l J Jx W hW oJ oJx hY h0
  have HY := Lib.hid hY
  have H0 := Lib.hid h0
  have HJ := Lib.hid oJ
  have HJx := Lib.hid oJx
  have hBW : Below n₀ w W := hW.mono hn₀
  have hBn1 : W.cell? ⟨Bn, 0, none⟩ = some (.pointer P) := (hW.cell (p := ⟨Bn, 0, none⟩) hBl).trans hBn
  have HT := Lib.hid (show Tb W from fun i hi => (hBW.cell (p := ⟨0, _, none⟩) hg).trans (hT i hi))
  have HSl : Hid (∀ W', Below n₀ W W' → BP W' P p q B) := Lib.hid (fun W' h => hSl W' (hBW.trans h))
  have hnW : n₀ ≤ W.heap.size := Nat.le_trans hn₀ hW.size
  have hP0 := hSl W hBW
  have hBlW : Bn < W.heap.size := Nat.lt_of_lt_of_le hBl hW.size
  clear hY h0 oJ oJx hBn hT hSl hBW hW hBl
  rcases hP0 with ⟨b, rfl, hM⟩ | ⟨rfl, rfl⟩
  · have hc0 := hM.c0
    have hbl := hM.blt
    have hplt := hM.st.plt
    clear hM
    refine callsIn_of_wp_marks Tryd.func62 rfl trivial ?_ rfl
    simp only [Tryd.ntmps62, List.size_toArray, List.length_cons, List.length_nil, Nat.reduceAdd, Nat.reduceSub, Array.replicate_succ, Array.replicate_zero, List.push_toArray, List.append_toArray, List.nil_append, List.cons_append]
    gi_wp2_with (refine ⟨trivial, (fun h => by cases h), ?_⟩; gi_at_call 63; refine (callsIn_wide.2 (all_calls' (some ⟨p, 0, none⟩) _)).mono ?_; rintro e w' ⟨rfl, rfl⟩)
    have bY := (Boxed.new W 44 (.func (.yield l) #[] #[])).alloc (.cells #[.pointer (some ⟨p, 0, none⟩)] 60)
    have bS := Boxed.new (W.alloc (.cells #[.func (.yield l) #[] #[]] 44)) 60 (.pointer (some ⟨p, 0, none⟩))
    simp only [World.size_alloc] at bS
    obtain ⟨W0, hW0⟩ : ∃ W0, W0 = (W.alloc (.cells #[.func (.yield l) #[] #[]] 44)).alloc (.cells #[.pointer (some ⟨p, 0, none⟩)] 60) := ⟨_, rfl⟩
    rw [← hW0] at bY bS ⊢
    have hNw : Nw W W0 := by rw [hW0]; exact ((Fr.refl _ _).alloc _).alloc _
    have hsz : W0.heap.size = W.heap.size + 2 := by rw [hW0]; simp
    have hJ0 : J [] W0 := by rw [hW0]; exact HJ.out.alloc _ (HJ.out.alloc _ H0.out)
    have hB0 : Below n₀ W W0 := (hNw.below (fun _ _ h => h)).mono hnW
    have hsl : ∀ W', Below n₀ W0 W' → SP W' (some ⟨p, 0, none⟩) q 1024 B := fun W' h => by
      rcases HSl.out W' (hB0.trans h) with ⟨b', h1, h2⟩ | ⟨h1, _⟩
      · exact .inl ⟨p, rfl, h2.st⟩
      · cases h1
    have hT0 : Tb W0 := HT.out.step hNw
    clear hW0
    refine wpIn_rangeFunc_ownG rfl (by omega) (gf := 80) (lb := #[.pointer (some ⟨W.heap.size + 1, 0, none⟩)]) rfl trivial (enters_of Tryd.func80 (by kernel_rfl) rfl)
      (all_stops _ (by omega) (W.heap.size + 1) n₀ (some ⟨p, 0, none⟩) q 1024 B W0 (by omega) (by omega) hg bS.cell (hsl W0 (Below.refl _ _)) hsl hT0) KpA.trans (KpA.b (by omega) (by omega)) (Below.refl _ _) (fun _ => rfl)
      (fun (pre : List Int) W' => J pre W' ∧ (Boxed W' W.heap.size 44 (.func (.yield l) #[] #[]) ∧ Boxed W' (W.heap.size + 1) 60 (.pointer (some ⟨p, 0, none⟩))))
      (fun c (pre : List Int) W' => c = .ret ∧ Jx pre W')
      (OwnFrom.and (fun s A D row hs hgr hr => HJ.out s A D row hs hgr (fun r e => ⟨by have := (hr r e).1; omega, (hr r e).2⟩)) (OwnFrom.and (Own.from (boxed_own _ _ (fun _ => Value.func (.yield l) #[] #[])) _) (Own.from (boxed_own _ _ (fun _ => Value.pointer (some ⟨p, 0, none⟩))) _)))
      (fun c => OwnFrom.and (ownFrom_pure _ (fun _ => c = .ret)) (fun s A D row hs hgr hr => HJx.out s A D row hs hgr (fun r e => ⟨by have := (hr r e).1; omega, (hr r e).2⟩)))
      ⟨hJ0, bY, bS⟩
      (fun y => { tmps := #[.func (.yield l) #[] #[], .pointer (some ⟨Bn, 0, none⟩), .pointer (some ⟨W.heap.size, 0, none⟩), .int .i64 y, .pointer (some ⟨b, 0, none⟩), .bool false, .pointer (some ⟨b, 0, none⟩), .pointer (some ⟨b, 0, none⟩), .pointer (some ⟨b, 0, none⟩), .pointer (some ⟨p, 0, none⟩), .func (.func 80) #[] #[.pointer (some ⟨W.heap.size + 1, 0, none⟩)], .int .i64 y, undef, undef, undef, undef, undef], defers := [] }) ?assign ?body ?done ?stop
    case assign =>
      intro l y W K hK
      gi_wp2
      exact hK
    case body =>
      rintro l2 pre y W2 ⟨hj, by1, bs1⟩ hlen
      have hcy := by1.cell
      obtain ⟨fn, tmps, assign, body, hy, hR⟩ := HY.out pre y W2 hj hlen
      clear hj
      unfold enc16 at hy
      gi_wp2_with (fail)
      refine ⟨fun h => (by cases h), ?_⟩
      refine (RoundIn.inRound' (round_any hR)).mono ?_
      rintro e W3 ⟨hkf, ⟨rfl, hJ3, hk3⟩ | ⟨rfl, hJx3⟩⟩
      · have HJ3 := Lib.hid hJ3
        have HK3 := Lib.hid hk3
        have HKf := Lib.hid hkf
        clear hJ3 hk3 hkf hR hy
        gi_wp2
        refine ⟨keepsFrom_mono HKf.out (by omega), ⟨HK3.out.1, ?_⟩, HJ3.out, HK3.out.2 _ _ _ _ (.inr rfl) by1, HK3.out.2 _ _ _ _ (.inl rfl) bs1⟩
        exact (HK3.out.2 _ _ _ _ (.inl rfl) bs1).trans (Eq.symm bs1)
      · have HJ3 := Lib.hid hJx3
        have HKf := Lib.hid hkf
        clear hJx3 hkf hR hy
        gi_wp2
        exact ⟨keepsFrom_mono HKf.out (by omega), rfl, HJ3.out⟩
    case done =>
      rintro D ys W2 hD hys ⟨hj, _, _⟩ hK
      have HJ2 := Lib.hid (HJ.out.putObj (.deferred none) hj (by omega) hK rfl)
      clear hj
      gi_wp2
      refine ⟨by simp, .inl ⟨_, _, rfl, run_takeDeferred hK, ?_⟩⟩
      exact ⟨_, results_none rfl _ _ _, ⟨_, rfl⟩, .inl ⟨ys, hys, HJ2.out⟩⟩
    case stop =>
      rintro D c pre W2 hD hpre ⟨rfl, hj⟩ hK
      have HJ2 := Lib.hid (HJx.out.putObj (.deferred none) hj (by omega) hK rfl)
      clear hj
      gi_wp2
      refine ⟨by simp, .inl ⟨_, _, rfl, run_takeDeferred hK, ?_⟩⟩
      exact ⟨_, results_none rfl _ _ _, ⟨_, rfl⟩, .inr ⟨pre, hpre, HJ2.out⟩⟩
  · refine callsIn_of_wp Tryd.func62 rfl trivial ?_ rfl
    simp only [Tryd.ntmps62, List.size_toArray, List.length_cons, List.length_nil, Nat.reduceAdd, Nat.reduceSub, Array.replicate_succ, Array.replicate_zero, List.push_toArray, List.append_toArray, List.nil_append, List.cons_append]
    gi_wp2
    refine bodyPost_ret (results_none rfl _ _ _) rfl ?_
    exact ⟨⟨_, rfl⟩, .inl ⟨[], (listB_zero 1024).symm, HJ.out.alloc _ H0.out⟩⟩

theorem wrap16 (l : List Int) (h : ∀ x, x ∈ l → 0 ≤ x ∧ x < 65536) : l.map (fun y => Value.int .u16 (IntKind.u16.wrap y)) = l.map (Value.int .u16) := by
  apply List.map_congr_left
  intro x hx
  have := h x hx
  congr 1
  simp [IntKind.wrap, IntKind.signed, IntKind.bits]; omega
theorem kpT_appended {W w1 : World} {n₀ B : Nat} {v u : Value} {k : Nat} {xs : List Value} {tmp : Obj} (hv : Boxed W B 22 v) (hrow : W.ownsRow n₀ 40 1 v k xs) (hgrow : (W.alloc tmp).grownBy w1 v.ownBlock)
    (hb : Below n₀ W (w1.setCell ⟨B, 0, none⟩ u)) : KpT n₀ W (w1.setCell ⟨B, 0, none⟩ u) := by
  refine ⟨hb, fun j cs t m ht hj => ?_⟩
  have h1 : (W.alloc tmp).heap[j]? = some (Obj.cells cs t m) := blk_alloc hj _
  have hne : some j ≠ v.ownBlock := by
    rcases hrow.2 with ⟨rfl, _⟩ | ⟨g, cap, cur, rfl, _, hgb, _⟩
    · simp [Value.ownBlock]
    · intro e
      obtain rfl : j = g := by simpa [Value.ownBlock] using e
      rw [hj] at hgb
      injection hgb with hgb
      injection hgb with _ h2 _
      rcases ht with rfl | rfl <;> exact absurd h2 (by decide)
  have h2 : w1.heap[j]? = some (Obj.cells cs t m) := (hgrow.block j (blk_lt h1) hne).trans h1
  refine blk_far h2 (fun e => ?_) _
  have e : j = B := e
  subst e
  have := hj.symm.trans hv
  injection this with this
  injection this with _ h3 _
  rcases ht with rfl | rfl <;> exact absurd h3 (by decide)
theorem KpT.of {n₀ g : Nat} {W W' : World} (hb : Below n₀ W W') (hk : ∀ (k : Nat) (cs : Array Value) (t : TypeId) (m : Nat × Nat), (t = 60 ∨ t = 44) → W.heap[k]? = some (Obj.cells cs t m) → W'.heap[k]? = some (Obj.cells cs t m)) : KpT n₀ W W' := ⟨hb, hk⟩

set_option maxRecDepth 100000 in
set_option maxHeartbeats 4000000 in
theorem bmall_calls (P : Option Addr) (p q B k : Nat) (w : World) (h : BP w P p q B) (hk1 : 1 ≤ k) (hk2 : k ≤ 100000) (hT : Tb w) :
    Calls Tryd.prog 14 #[.pointer P, .int .i64 k] w fun e w' => ∃ A c, e = .returned (.slice A ((listB 1024 B).take k).length c) ∧ Kd.C (Kd.int .u16) w' A ((listB 1024 B).take k).length ((listB 1024 B).take k) ∧ Nw w w' := by
  have HT := Lib.hid hT
  have HS := Lib.hid h
  clear hT h
  obtain ⟨i0, hi, hz0, hz1, hz2⟩ := info_parts info_u16
  refine (callsIn_wide (n := 5)).1 ?_
  refine callsIn_of_wp_marks Tryd.func14 rfl trivial ?_ rfl
  simp only [Tryd.ntmps14, List.size_toArray, List.length_cons, List.length_nil, Nat.reduceAdd, Nat.reduceSub, Array.replicate_succ, Array.replicate_zero, List.push_toArray, List.append_toArray, List.nil_append, List.cons_append]
  gi_wp2_with (refine ⟨trivial, ?_⟩; gi_at_call 41; refine (callsIn_wide.2 (bmall_calls' P _)).mono ?_; rintro e w' ⟨rfl, rfl⟩)
  have bM := Boxed.new w 3 (.int .i64 k)
  have bO := Boxed.new (w.alloc (.cells #[.int .i64 k] 3)) 22 (.slice none 0 0)
  have bN := Boxed.new ((w.alloc (.cells #[.int .i64 k] 3)).alloc (.cells #[.slice none 0 0] 22)) 25 (.pointer P)
  simp only [World.size_alloc] at bO bN
  obtain ⟨w0, hw0⟩ : ∃ w0, w0 = (w.alloc (.cells #[.int .i64 k] 3)) := ⟨_, rfl⟩
  have hB0 : Below (w.heap.size + 1) (w.alloc (.cells #[.int .i64 k] 3)) (((w.alloc (.cells #[.int .i64 k] 3)).alloc (.cells #[.slice none 0 0] 22)).alloc (.cells #[.pointer P] 25)) := ((Below.refl _ (w.alloc (.cells #[.int .i64 k] 3))).alloc (by simp) _).alloc (by simp) _
  have hNw : Nw w w0 := by rw [hw0]; exact Fr.alloc (Fr.refl _ _) _
  have hs0 : w0.heap.size = w.heap.size + 1 := by rw [hw0]; simp
  have hg : 0 < w.heap.size + 1 := Nat.lt_succ_of_lt (World.block_lt_of_cell? w _ (HT.out 0 (by decide)))
  have hSP0 : ∀ W', Below (w.heap.size + 1) w0 W' → BP W' P p q B := fun W' hb => by
    rcases HS.out with ⟨b, hP, hS⟩ | h
    · refine .inl ⟨b, hP, hS.keep (fun k cs t m hk hc => ?_)⟩
      exact (hb.block k (Nat.lt_succ_of_lt (blk_lt hc))).trans ((hNw.block k (blk_lt hc) (fun h => h)).trans hc)
    · exact .inr h
  have hTW : Tb (((w.alloc (.cells #[.int .i64 k] 3)).alloc (.cells #[.slice none 0 0] 22)).alloc (.cells #[.pointer P] 25)) := HT.out.step ((((Fr.refl _ w).alloc _).alloc _).alloc _)
  rw [← hw0] at bM
  have hll := listB_len 1024 B
  refine wpIn_rangeFunc_seqO rfl (by decide) (gf := 62) (lb := #[.pointer (some ⟨w.heap.size + 1 + 1, 0, none⟩)]) rfl trivial (enters_of Tryd.func62 (by kernel_rfl) rfl)
    (bmall_seq _ (by decide) (w.heap.size + 1 + 1) (w.heap.size + 1) P p q B _ (by simp) (by simp <;> omega) hg bN.cell (fun W' hb => hSP0 W' (by rw [hw0]; exact hB0.trans hb)) hTW) KpT.trans (KpT.b (by simp <;> omega)) (Below.refl _ _) (fun _ => rfl)
    (fun (pre : List Int) W => (pre.length < k ∧ ∃ v, Boxed W (w.heap.size + 1) 22 v ∧ W.ownsRow (w.heap.size + 1) 40 1 v pre.length (pre.map (fun y => Value.int .u16 (IntKind.u16.wrap y))) ∧ True) ∧ Below (w.heap.size + 1) w0 W)
    (fun c (pre : List Int) W => ((c = .exit 0 ∧ pre.length = k) ∧ ∃ v, Boxed W (w.heap.size + 1) 22 v ∧ W.ownsRow (w.heap.size + 1) 40 1 v pre.length (pre.map (fun y => Value.int .u16 (IntKind.u16.wrap y))) ∧ True) ∧ Below (w.heap.size + 1) w0 W)
    (OwnFrom.and (OwnFrom.and (ownFrom_pure _ (fun pre : List Int => pre.length < k)) (Own.from (holdsRow_own (w.heap.size + 1) (w.heap.size + 1) 22 40 1 (fun pre : List Int => pre.length) (fun pre : List Int => pre.map (fun y => Value.int .u16 (IntKind.u16.wrap y))) (fun _ _ => True)) _)) (ownFrom_below (by omega) (by simp <;> omega)))
    (fun c => OwnFrom.and (OwnFrom.and (ownFrom_pure _ (fun pre : List Int => c = .exit 0 ∧ pre.length = k)) (Own.from (holdsRow_own (w.heap.size + 1) (w.heap.size + 1) 22 40 1 (fun pre : List Int => pre.length) (fun pre : List Int => pre.map (fun y => Value.int .u16 (IntKind.u16.wrap y))) (fun _ _ => True)) _)) (ownFrom_below (by omega) (by simp <;> omega)))
    ⟨⟨by simp; omega, _, bO.alloc _, World.ownsRow_nil _ _ _ _, trivial⟩, by rw [hw0]; exact hB0⟩
    (fun y => { tmps := #[.pointer P, .int .i64 k, undef, .pointer (some ⟨w.heap.size, 0, none⟩), .slice none 0 0, .pointer (some ⟨w.heap.size + 1, 0, none⟩), .int .u16 (IntKind.u16.wrap y), .pointer P, .func (.func 62) #[] #[.pointer (some ⟨w.heap.size + 1 + 1, 0, none⟩)], .int .u16 (IntKind.u16.wrap y), undef, undef, undef, undef, undef, undef, undef, undef, undef], defers := [] }) ?assign ?body ?done ?stop
  case assign =>
    intro l y W K hK
    unfold enc16
    gi_wp2
    exact hK
  case body =>
    rintro l pre y0 W ⟨⟨hlt, v, hv, hrow, _⟩, hB⟩ _
    have hmp : (pre ++ [y0]).map (fun y => Value.int .u16 (IntKind.u16.wrap y)) = pre.map (fun y => Value.int .u16 (IntKind.u16.wrap y)) ++ [.int .u16 (IntKind.u16.wrap y0)] := by rw [List.map_append]; rfl
    have hln : (pre ++ [y0]).length = pre.length + 1 := by simp
    obtain ⟨xs, hxs⟩ : ∃ xs, xs = pre.map (fun y => Value.int .u16 (IntKind.u16.wrap y)) := ⟨_, rfl⟩
    rw [← hxs] at hrow hmp
    obtain ⟨y, hyy⟩ : ∃ y, y = IntKind.u16.wrap y0 := ⟨_, rfl⟩
    rw [← hyy] at hmp ⊢
    have HMp := Lib.hid hmp
    have hc := hv.cell
    have hBs := hB.size
    clear hB0 bO bN hTW hw0 hmp hxs hyy
    have HLn := Lib.hid hln
    clear hln
    gi_wp2_with (gi_at_builtin; refine wpListIn_append_own _ rfl _ _ 22 rfl (w.heap.size + 1) 40 i0 (.int .u16 0) 1 2 Tryd.underlying22 hi hz0 hz1 hz2 rfl (by decide) _ _ _ rfl (hrow.alloc _) ⟨W.heap.size, 0, none⟩ 1 1 [.int .u16 y] rfl rfl (cell_one_new _ _ _) (by simp [Value.oneCell']) (by have hM : maxLen = 9223372036854775807 := rfl; omega) (by omega) (by simp <;> omega) ?_; intro v' w1 hown' hgrow _; obtain ⟨g', cap', rfl⟩ := ownsRow_succ hown'; obtain ⟨hv1, hv2, hr2, hk2, hb2⟩ := hv.appended (by decide) hrow (by omega) (Nat.le_refl _) hown' hgrow; have hc1 := hv1.cell; have hf1 := hv1.frozen; have hvc2 := hv2.cell; have hmc2 := ((hB.trans hb2).cell (p := ⟨w.heap.size, 0, none⟩) (Nat.lt_succ_self _)).trans bM.cell)
    · rename_i hx
      have hq : pre.length + 1 = k := by simp at hx; omega
      exact ⟨hk2.from _, ⟨⟨rfl, by rw [HLn.out]; exact hq⟩, _, hv2, by rw [HLn.out, HMp.out]; exact hr2, trivial⟩, hB.trans hb2⟩
    · rename_i hx
      have hq : ¬ pre.length + 1 = k := by simp at hx; omega
      exact ⟨hk2.from _, kpT_appended hv hrow hgrow hb2, ⟨by rw [HLn.out]; omega, _, hv2, by rw [HLn.out, HMp.out]; exact hr2, trivial⟩, hB.trans hb2⟩
  case done =>
    rintro D ys W hD hys ⟨⟨hlt, v, hv, hrow, _⟩, hB⟩ hK
    have hE : (listB 1024 B).take k = ys := by rw [← hys]; exact List.take_of_length_le (by omega)
    have hBl := hB.trans (belowK_b (w := w0) (by omega) W D _ (.deferred none) (by simp at hD; omega) hK rfl rfl)
    rw [wrap16 ys (fun x hx => by have := list_bd 1024 B x (by rw [← hys]; exact hx); omega)] at hrow
    have hR : Kd.R (Kd.int .u16) 40 (W.putObj D (.deferred none)) (w.heap.size + 1) (fun _ => True) v ys := Kd.R_of_own (ownsRow_putObj hrow _ hK rfl) (fun _ _ => trivial)
    obtain ⟨A, c, rfl, _, hC⟩ := Kd.R_reads hR
    have hc := hv.cell
    have HE := Lib.hid hE
    clear hB0 bO bN hTW hw0 hE hys
    gi_wp2
    refine ⟨by simp, .inl ⟨_, _, rfl, run_takeDeferred hK, ?_⟩⟩
    refine ⟨_, results_tmp rfl _ _ _, A, c, ?_, ?_, hNw.trans (Fr.of_below (by rw [hs0]; exact hBl))⟩
    · rw [HE.out]; rfl
    · rw [HE.out]; exact hC
  case stop =>
    rintro D c pre W hD hpre ⟨⟨⟨rfl, hlen⟩, v, hv, hrow, _⟩, hB⟩ hK
    have hE : (listB 1024 B).take k = pre := by rw [← hlen]; exact (List.prefix_iff_eq_take.1 hpre).symm
    have hBl := hB.trans (belowK_b (w := w0) (by omega) W D _ (.deferred none) (by simp at hD; omega) hK rfl rfl)
    rw [wrap16 pre (fun x hx => by have := list_bd 1024 B x (hpre.subset hx); omega)] at hrow
    have hR : Kd.R (Kd.int .u16) 40 (W.putObj D (.deferred none)) (w.heap.size + 1) (fun _ => True) v pre := Kd.R_of_own (ownsRow_putObj hrow _ hK rfl) (fun _ _ => trivial)
    obtain ⟨A, c, rfl, _, hC⟩ := Kd.R_reads hR
    have hc := hv.cell
    have HE := Lib.hid hE
    clear hB0 bO bN hTW hw0 hE hlen
    gi_wp2
    refine ⟨by simp, .inl ⟨_, _, rfl, run_takeDeferred hK, ?_⟩⟩
    refine ⟨_, results_tmp rfl _ _ _, A, c, ?_, ?_, hNw.trans (Fr.of_below (by rw [hs0]; exact hBl))⟩
    · rw [HE.out]; rfl
    · rw [HE.out]; exact hC

end Go.Proofs.YtiekoidlibhoeaaDoor
