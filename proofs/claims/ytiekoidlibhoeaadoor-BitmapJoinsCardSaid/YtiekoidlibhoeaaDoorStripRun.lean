/-
  The contracts of strip's loops over the parts of a range: Rank, Fill, Wipe, Next.
-/
import Derived.Test.YtiekoidlibhoeaaDoorStrip
import Derived.Test.YtiekoidlibhoeaaDoorRound
namespace Go.Proofs.YtiekoidlibhoeaaDoor
open Go.RowKit Go.Shelf Go.Proofs.YtiekoidlibhoeaaDoorW.PrintWords Go.Proofs.YtiekoidlibhoeaaDoorW.PrintMore
attribute [local go_sem] Oper.semAt_some
set_option linter.unusedVariables false
set_option linter.unusedSimpArgs false

theorem St.keep {W W1 : World} {p q n B : Nat} (h : St W p q n B) (hk : ∀ k cs t m, (k = p ∨ k = q) → W.heap[k]? = some (.cells cs t m) → W1.heap[k]? = some (.cells cs t m)) : St W1 p q n B := by
  obtain ⟨h1, h2, h3, ⟨c, h4⟩, ⟨cur, h7, h8, h9⟩⟩ := h
  exact ⟨h1, h2, h3, ⟨c, hk _ _ _ _ (.inl rfl) h4⟩, ⟨cur, hk _ _ _ _ (.inr rfl) h7, h8, h9⟩⟩
theorem St.plt {W : World} {p q n B : Nat} (h : St W p q n B) : p < W.heap.size := by obtain ⟨c, h4⟩ := h.head; exact blk_lt h4
theorem St.qlt {W : World} {p q n B : Nat} (h : St W p q n B) : q < W.heap.size := by obtain ⟨c, h4, _⟩ := h.cells; exact blk_lt h4
theorem St.word {W : World} {p q n B k : Nat} (h : St W p q n B) (hk : k < n) : ∃ c, W.cell? ⟨p, 0, none⟩ = some (.slice (some ⟨q, 0, none⟩) n c) ∧ W.cell? ⟨q, k, none⟩ = some (.int .u64 (wordN B k)) ∧ W.frozen? ⟨q, k, none⟩ = false := by
  obtain ⟨c, h4⟩ := h.head
  obtain ⟨cur, h7, h8, h9⟩ := h.cells
  refine ⟨c, ?_, ?_, blk_frozen h7 _⟩
  · rw [blk_cell h4]; rfl
  · rw [blk_cell h7]
    have h1 : (cur.toList.take n)[k]? = some (Value.int .u64 (wordN B k)) := by
      rw [h9, List.getElem?_map, List.getElem?_eq_getElem (by rw [wordsI_len]; exact hk), wordsI_get]; rfl
    rw [List.getElem?_take, if_pos hk] at h1
    simpa using h1

/-- A strip, or none. -/
def SP (W : World) (P : Option Addr) (q n B : Nat) : Prop := (∃ p, P = some ⟨p, 0, none⟩ ∧ St W p q n B) ∨ (P = none ∧ n = 0 ∧ B = 0)
theorem SP.le {W : World} {P : Option Addr} {q n B : Nat} (h : SP W P q n B) : n ≤ 4096 := by
  rcases h with ⟨p, _, h⟩ | ⟨_, h, _⟩
  · exact h.le
  · omega
theorem SP.lt {W : World} {P : Option Addr} {q n B : Nat} (h : SP W P q n B) : B < 2 ^ (64 * n) := by
  rcases h with ⟨p, _, h⟩ | ⟨_, rfl, rfl⟩
  · exact h.lt
  · decide
theorem SP.pos {W : World} {P : Option Addr} {q n B : Nat} (h : SP W P q n B) (h0 : 0 < n) : ∃ p, P = some ⟨p, 0, none⟩ ∧ St W p q n B := by
  rcases h with h | ⟨_, rfl, _⟩
  · exact h
  · omega
theorem SP.keep {W W1 : World} {P : Option Addr} {q n B : Nat} (h : SP W P q n B) (hk : ∀ k cs t m, (P = some ⟨k, 0, none⟩ ∨ k = q) → W.heap[k]? = some (.cells cs t m) → W1.heap[k]? = some (.cells cs t m)) : SP W1 P q n B := by
  rcases h with ⟨p, rfl, h⟩ | h
  · exact .inl ⟨p, rfl, h.keep (fun k cs t m hkp => hk k cs t m (by rcases hkp with rfl | rfl; exact .inl rfl; exact .inr rfl))⟩
  · exact .inr h
theorem SP.nw {W W1 : World} {P : Option Addr} {q n B : Nat} (h : SP W P q n B) (hf : Nw W W1) : SP W1 P q n B := h.keep (fun k cs t m _ hb => hf.blk hb (fun h => h))

theorem own_blk {W W' : World} {row : Option Nat} {Bd : Nat} (hg : W.grownBy W' row) (hr : ∀ r, row = some r → Bd ≤ r ∧ ∃ o : Obj, W.heap[r]? = some o ∧ o.isCells = false) {k : Nat} {cs : Array Value} {t : TypeId} {m : Nat × Nat}
    (h : W.heap[k]? = some (.cells cs t m)) : W'.heap[k]? = some (.cells cs t m) := by
  refine (hg.block k (blk_lt h) (fun e => ?_)).trans h
  obtain ⟨o, ho, hc⟩ := (hr k e.symm).2
  rw [h] at ho; cases ho; cases hc
theorem sp_own {β : Type} (Bd : Nat) (P : Option Addr) (q n : Nat) (f : β → Nat) : OwnFrom Bd (fun s W => SP W P q n (f s)) := fun s X Y row hs hg hr => hs.keep (fun k cs t m _ h => own_blk hg hr h)
theorem fr_own {β : Type} {Bd : Nat} {w : World} {S : Nat → Prop} (hB : w.heap.size ≤ Bd) : OwnFrom Bd (fun (_ : β) W => Fr S w W) := fun s X Y row hs hg hr => by
  refine hs.trans_of (T := fun k => row = some k) ⟨hg.os, hg.tape, hg.output, hg.size, fun k hk hn => hg.block k hk (fun e => hn e.symm)⟩ (fun k hk e => ?_)
  have := (hr k e).1
  omega

theorem bits_nil_calls (w : World) : Calls Tryd.prog 72 #[.pointer none] w fun e w' => e = .returned (.int .i64 0) ∧ w = w' := by
  go_enter Tryd.func72, Tryd.ntmps72
  go_wp2
  go_ret
  exact ⟨rfl, rfl⟩
theorem pbits_calls (P : Option Addr) (q n B : Nat) (w : World) (h : SP w P q n B) :
    Calls Tryd.prog 72 #[.pointer P] w fun e w' => e = .returned (.int .i64 (64 * n : Nat)) ∧ w = w' := by
  rcases h with ⟨p, rfl, h⟩ | ⟨rfl, rfl, rfl⟩
  · exact bits_calls p q n B w h
  · exact bits_nil_calls w

theorem parts_stops (m : Nat) (hm : 1 ≤ m) (Bs : Nat) (P : Option Addr) (q n B : Nat) (a b : Int) (w : World) (hS : SP w P q n B) (hs : w.cell? ⟨Bs, 0, none⟩ = some (.pointer P)) (ha : w.cell? ⟨Bs + 1, 0, none⟩ = some (.int .i64 a)) (hb : w.cell? ⟨Bs + 1 + 1, 0, none⟩ = some (.int .i64 b)) :
    SeqStopsK Fence.wide m Tryd.prog 84 #[.pointer (some ⟨Bs + 1, 0, none⟩), .pointer (some ⟨Bs + 1 + 1, 0, none⟩), .pointer (some ⟨Bs, 0, none⟩)] (encPart n) (fun _ _ => True)
      (fun ys : List (Part n) => ys.map (·.1) = partsL (fromN a) (toN b (64 * n))) (fun pre : List (Part n) => pre.map (·.1) <+: partsL (fromN a) (toN b (64 * n))) n w := fun l J Jx W hW hJ hJx hY h0 => by
  have hB : ∀ {p : Addr} {v : Value}, w.cell? p = some v → W.cell? p = some v := fun hp => (hW.cell (World.block_lt_of_cell? w _ hp)).trans hp
  have hSW : SP W P q n B := hS.nw (Fr.of_below hW)
  refine parts_in m hm l Bs P n hS.le a b J Jx hY W (hB hs) (hB ha) (hB hb) ?_ ?_ h0
  · rintro w' (rfl | rfl)
    · exact pbits_calls P q n B _ hSW
    · exact pbits_calls P q n B _ (hSW.nw (Fr.refl _ _).drew)
  · intro W1 h1
    exact hJ [] W1 W1.drew none h1 ⟨rfl, rfl, rfl, Nat.le_refl _, fun _ _ _ => rfl⟩ (fun r e => by cases e)

theorem parts_cell (W : World) (Bx : Nat) (x y : Value) (hb : W.heap[Bx]? = some (.cells #[x, y] 93 (0, 0))) : W.cell? ⟨Bx, 0, none⟩ = some x ∧ W.cell? ⟨Bx, 1, none⟩ = some y := by
  rw [blk_cell hb, blk_cell hb]; exact ⟨rfl, rfl⟩

set_option maxRecDepth 100000 in
set_option maxHeartbeats 4000000 in
theorem srank_calls (P : Option Addr) (q n B : Nat) (i : Int) (w : World) (h : SP w P q n B) :
    Calls Tryd.prog 47 #[.pointer P, .int .i64 i] w fun e w' => e = .returned (.int .i64 (segN B 0 (toN i (64 * n)))) ∧ Nw w w' := by
  have HS := Lib.hid h
  have hn := h.le
  clear h
  refine (callsIn_wide (n := 3)).1 ?_
  refine callsIn_of_wp_marks Tryd.func47 rfl trivial ?_ rfl
  simp only [Tryd.ntmps47, List.size_toArray, List.length_cons, List.length_nil, Nat.reduceAdd, Nat.reduceSub, Array.replicate_succ, Array.replicate_zero, List.push_toArray, List.append_toArray, List.nil_append, List.cons_append]
  gi_wp2_with (refine ⟨trivial, ?_⟩; gi_at_call 69; refine (callsIn_wide.2 (parts_calls P 0 i _)).mono ?_; rintro e w' ⟨rfl, rfl⟩)
  have bS := ((((Boxed.new w 60 (.pointer P)).alloc (.cells #[.int .i64 0] 3)).alloc (.cells #[.pointer P] 60)).alloc (.cells #[.int .i64 0] 3)).alloc (.cells #[.int .i64 i] 3)
  have bN := (((Boxed.new (w.alloc (.cells #[.pointer P] 60)) 3 (.int .i64 0)).alloc (.cells #[.pointer P] 60)).alloc (.cells #[.int .i64 0] 3)).alloc (.cells #[.int .i64 i] 3)
  have b1 := ((Boxed.new ((w.alloc (.cells #[.pointer P] 60)).alloc (.cells #[.int .i64 0] 3)) 60 (.pointer P)).alloc (.cells #[.int .i64 0] 3)).alloc (.cells #[.int .i64 i] 3)
  have b2 := (Boxed.new (((w.alloc (.cells #[.pointer P] 60)).alloc (.cells #[.int .i64 0] 3)).alloc (.cells #[.pointer P] 60)) 3 (.int .i64 0)).alloc (.cells #[.int .i64 i] 3)
  have b3 := Boxed.new ((((w.alloc (.cells #[.pointer P] 60)).alloc (.cells #[.int .i64 0] 3)).alloc (.cells #[.pointer P] 60)).alloc (.cells #[.int .i64 0] 3)) 3 (.int .i64 i)
  have hN0 : Nw w (((((w.alloc (.cells #[.pointer P] 60)).alloc (.cells #[.int .i64 0] 3)).alloc (.cells #[.pointer P] 60)).alloc (.cells #[.int .i64 0] 3)).alloc (.cells #[.int .i64 i] 3)) := (((((Fr.refl _ w).alloc _).alloc _).alloc _).alloc _).alloc _
  have hsz : (((((w.alloc (.cells #[.pointer P] 60)).alloc (.cells #[.int .i64 0] 3)).alloc (.cells #[.pointer P] 60)).alloc (.cells #[.int .i64 0] 3)).alloc (.cells #[.int .i64 i] 3)).heap.size = w.heap.size + 5 := by simp
  simp only [World.size_alloc] at bN b1 b2 b3
  obtain ⟨W0, hW0⟩ : ∃ W0, (((((w.alloc (.cells #[.pointer P] 60)).alloc (.cells #[.int .i64 0] 3)).alloc (.cells #[.pointer P] 60)).alloc (.cells #[.int .i64 0] 3)).alloc (.cells #[.int .i64 i] 3)) = W0 := ⟨_, rfl⟩
  rw [hW0] at bS bN b1 b2 b3 hN0 hsz ⊢
  have HS0 := Lib.hid (HS.out.nw hN0)
  clear hW0
  refine wpIn_rangeFunc_ownH rfl (by decide) (gf := 84) (lb := #[.pointer (some ⟨w.heap.size + 1 + 1 + 1, 0, none⟩), .pointer (some ⟨w.heap.size + 1 + 1 + 1 + 1, 0, none⟩), .pointer (some ⟨w.heap.size + 1 + 1, 0, none⟩)]) rfl trivial (enters_of Tryd.func84 (by kernel_rfl) rfl)
    (parts_stops _ (by decide) (w.heap.size + 1 + 1) P q n B 0 i W0 HS0.out b1.cell b2.cell b3.cell) (fun _ _ => trivial) (fun _ _ _ _ _ _ _ _ => trivial) (Below.refl _ _) (fun _ => rfl)
    (fun (pre : List (Part n)) W => (Boxed W (w.heap.size + 1) 3 (.int .i64 ((pre.map (·.1)).foldl (rankF B) 0 : Nat)) ∧ Boxed W w.heap.size 60 (.pointer P)) ∧ (SP W P q n B ∧ Nw w W))
    (fun _ _ _ => False)
    (OwnFrom.and (OwnFrom.and (Own.from (boxed_own _ _ (fun pre : List (Part n) => Value.int .i64 ((pre.map (·.1)).foldl (rankF B) 0 : Nat))) _) (Own.from (boxed_own _ _ _) _)) (OwnFrom.and (sp_own _ P q n (fun _ => B)) (fr_own (by omega))))
    (fun _ _ _ _ _ hs _ _ => hs)
    ⟨⟨bN, bS⟩, HS0.out, hN0⟩
    (fun y a' W => ∃ Bx, w.heap.size + 1 < Bx ∧ W.heap[Bx]? = some (.cells #[.int .i64 (y.1.1 : Nat), .int .u64 (y.1.2 : Nat)] 93 (0, 0)) ∧ a' = { tmps := #[.pointer P, .int .i64 i, .pointer (some ⟨w.heap.size, 0, none⟩), undef, .int .i64 0, .pointer (some ⟨w.heap.size + 1, 0, none⟩), .pointer (some ⟨Bx, 0, none⟩), .pointer P, .int .i64 i, .func (.func 84) #[] #[.pointer (some ⟨w.heap.size + 1 + 1 + 1, 0, none⟩), .pointer (some ⟨w.heap.size + 1 + 1 + 1 + 1, 0, none⟩), .pointer (some ⟨w.heap.size + 1 + 1, 0, none⟩)], .agg #[.int .i64 (y.1.1 : Nat), .int .u64 (y.1.2 : Nat)], undef, undef, undef, undef, undef, undef, undef, undef, undef, undef, undef, undef, undef, undef, undef], defers := [] })
    (fun y a' _ X Y row hs hg hr => by obtain ⟨Bx, h1, h2, h3⟩ := hs; exact ⟨Bx, h1, own_blk hg hr h2, h3⟩)
    ?assign ?body ?done ?stop
  case assign =>
    rintro l pre y W K ⟨⟨bN1, bS1⟩, hS1, hN1⟩ hK
    have hE : encPart n y = #[.agg #[.int .i64 (y.1.1 : Nat), .int .u64 (y.1.2 : Nat)]] := rfl
    rw [hE]
    gi_wp2
    exact hK _ _ ((KeepsOthers.alloc _ _).from _) trivial ⟨⟨bN1.alloc _, bS1.alloc _⟩, hS1.nw ((Fr.refl _ _).alloc _), hN1.alloc _⟩ ⟨W.heap.size, bN1.lt, blk_new _ _, rfl⟩
  case body =>
    rintro l pre y a' W hl _ ⟨⟨bN1, bS1⟩, hS1, hN1⟩ ⟨Bx, hBx, bX, rfl⟩ hlt
    obtain ⟨p, hP, hSt⟩ := hS1.pos (by omega)
    subst hP
    have hwd := hSt.word y.2.1
    obtain ⟨c, hw1, hw2, hw3⟩ := hwd
    obtain ⟨hx1, hx2⟩ := parts_cell W Bx _ _ bX
    have cN := bN1.cell
    have fN := bN1.frozen
    have cS := bS1.cell
    have hsn : (((pre ++ [y]).map (·.1)).foldl (rankF B) 0) = ((pre.map (·.1)).foldl (rankF B) 0) + cntN (wordN B y.1.1 &&& y.1.2) := by
      rw [List.map_append, List.foldl_append]; rfl
    have hbd := rank_bd B (pre.map (·.1)) 0
    rw [List.length_map] at hbd
    have HC := Lib.hid (fun w' => count_calls (wordN B y.1.1 &&& y.1.2) w' (and_lt _ _ y.2.2))
    have ha := and_u64 (wordN B y.1.1) y.1.2 (wordN_lt _ _) y.2.2
    have hcl := cntN_le (wordN B y.1.1 &&& y.1.2)
    obtain ⟨k, hk⟩ : ∃ k, k = cntN (wordN B y.1.1 &&& y.1.2) := ⟨_, rfl⟩
    obtain ⟨x, hx⟩ : ∃ x, x = (pre.map (·.1)).foldl (rankF B) 0 := ⟨_, rfl⟩
    obtain ⟨u, hu⟩ : ∃ u, u = wordN B y.1.1 &&& y.1.2 := ⟨_, rfl⟩
    rw [← hu] at ha HC hk hcl
    rw [← hx] at cN hbd
    rw [← hk] at HC hcl
    obtain ⟨wd, hwd⟩ : ∃ wd, wd = wordN B y.1.1 := ⟨_, rfl⟩
    rw [← hwd] at hw2 ha
    obtain ⟨⟨at', mk⟩, hat, hmk⟩ := y
    simp only at hx1 hx2 hw2 hw3 ha hat ⊢
    have hat2 : (at' : Int) < n := by omega
    have hs : IntKind.i64.wrap ((x : Int) + (k : Int)) = ((x + k : Nat) : Int) := by have := IntWalk.i64_in ((x : Int) + k) (by omega); rw [this]; rfl
    have HX := Lib.hid hx
    have HK := Lib.hid hk
    have HU := Lib.hid hu
    have HW := Lib.hid hwd
    have HSn := Lib.hid hsn
    clear hx hk hu hwd hsn
    gi_wp2
    refine wpIn_round_still 14 (by kernel_rfl) (by rintro ⟨a, w, h⟩; exact h) (by kernel_rfl) (by kernel_rfl) ?_
    simp only [List.take_succ_cons, List.take_zero, List.drop_succ_cons, List.drop_zero]
    repeat still_step
    still_call (Calls.mono (HC.out _) (fun _ _ h => ⟨h.1, h.2.symm⟩))
    repeat still_step
    refine wpStill_nil ?_
    go_wp2
    have hN2 := (hN1.setN (b := w.heap.size + 1) (by omega) 0 (Value.int .i64 ((x : Int) + k))).drew
    have hkf := (KeepsOthers.setCell W ⟨w.heap.size + 1, 0, none⟩ (Value.int .i64 ((x : Int) + k))).from W0.heap.size
    refine ⟨⟨hkf.size, hkf.same⟩, trivial, ⟨?_, ?_⟩, HS.out.nw hN2, hN2⟩
    · rw [HSn.out, ← HX.out, ← HU.out, ← HK.out]
      exact bN1.set _
    · exact bS1.other (by omega) _
  case done =>
    rintro D ys W hD hys ⟨⟨bN1, bS1⟩, hS1, hN1⟩ hK
    have cN := bN1.cell
    have HV : Hid ((ys.map (·.1)).foldl (rankF B) 0 = segN B 0 (toN i (64 * n))) := Lib.hid (by
      rw [hys, show fromN 0 = 0 from rfl, fold_rank B _ _ 0 0 (Nat.le_refl _) (Nat.zero_le _), Nat.zero_add])
    obtain ⟨x, hx⟩ : ∃ x, x = (ys.map (·.1)).foldl (rankF B) 0 := ⟨_, rfl⟩
    rw [← hx] at cN HV
    clear hx hys
    gi_wp2
    refine ⟨by simp, .inl ⟨_, _, rfl, run_takeDeferred hK, ?_⟩⟩
    exact ⟨_, results_tmp rfl _ _ _, by rw [← HV.out]; rfl, Fr.of_below ((hN1.below (fun _ _ h => h)).trans (belowK_b (w := w) (Nat.le_refl _) W D _ (.deferred none) (by omega) hK rfl rfl))⟩
  case stop =>
    rintro D c pre W _ _ h _
    exact h.elim

theorem St.put {W : World} {p q n B k B' u : Nat} (h : St W p q n B) (hk : k < n) (hB : B' < 2 ^ (64 * n)) (hu : wordN B' k = u) (ho : ∀ j, j ≠ k → wordN B' j = wordN B j) : St (W.setCell ⟨q, k, none⟩ (.int .u64 u)) p q n B' := by
  obtain ⟨h1, h2, h3, ⟨c, h4⟩, ⟨cur, h7, h8, h9⟩⟩ := h
  refine ⟨h1, h2, hB, ⟨c, blk_far h4 (by exact h1) _⟩, ⟨_, blk_set h7 k _, by simpa using h8, ?_⟩⟩
  rw [Array.toList_setIfInBounds, List.take_set, h9, ← words_set n B B' k (u : Int) (by rw [hu]) ho, List.map_set]
theorem SP.put {W : World} {P : Option Addr} {q n B k B' u : Nat} (h : SP W P q n B) (hk : k < n) (hB : B' < 2 ^ (64 * n)) (hu : wordN B' k = u) (ho : ∀ j, j ≠ k → wordN B' j = wordN B j) : SP (W.setCell ⟨q, k, none⟩ (.int .u64 u)) P q n B' := by
  obtain ⟨p, rfl, hS⟩ := h.pos (by omega)
  exact .inl ⟨p, rfl, hS.put hk hB hu ho⟩
theorem SP.qlt {W : World} {P : Option Addr} {q n B : Nat} (h : SP W P q n B) (h0 : 0 < n) : q < W.heap.size := by
  obtain ⟨p, _, hS⟩ := h.pos h0
  exact hS.qlt
theorem SP.far {W : World} {P : Option Addr} {q n B : Nat} (h : SP W P q n B) {k : Nat} (hp : P ≠ some ⟨k, 0, none⟩) (hq : q ≠ k) (i : Nat) (v : Value) : SP (W.setCell ⟨k, i, none⟩ v) P q n B :=
  h.keep (fun j cs t m hj hb => blk_far hb (by rintro rfl; rcases hj with h | h; exact hp h; exact hq h.symm) _)

theorem boxed_far {W : World} {b q : Nat} {t : TypeId} {v : Value} (h : Boxed W b t v) (hb : b ≠ q) (i : Nat) (u : Value) : Boxed (W.setCell ⟨q, i, none⟩ u) b t v :=
  blk_far (W := W) (b := b) h (by exact hb) u

set_option maxRecDepth 100000 in
set_option maxHeartbeats 4000000 in
theorem fill_calls (P : Option Addr) (q n B : Nat) (a b : Int) (w : World) (h : SP w P q n B) :
    Calls Tryd.prog 50 #[.pointer P, .int .i64 a, .int .i64 b] w fun e w' => e = .returned (.int .i64 (toN b (64 * n) - fromN a - segN B (fromN a) (toN b (64 * n)) : Nat)) ∧ SP w' P q n (fillN B (fromN a) (toN b (64 * n))) ∧ Fr (One q) w w' := by
  have HS := Lib.hid h
  have hn := h.le
  clear h
  refine (callsIn_wide (n := 3)).1 ?_
  refine callsIn_of_wp_marks Tryd.func50 rfl trivial ?_ rfl
  simp only [Tryd.ntmps50, List.size_toArray, List.length_cons, List.length_nil, Nat.reduceAdd, Nat.reduceSub, Array.replicate_succ, Array.replicate_zero, List.push_toArray, List.append_toArray, List.nil_append, List.cons_append]
  gi_wp2_with (refine ⟨trivial, ?_⟩; gi_at_call 69; refine (callsIn_wide.2 (parts_calls P a b _)).mono ?_; rintro e w' ⟨rfl, rfl⟩)
  have bS := ((((Boxed.new w 60 (.pointer P)).alloc (.cells #[.int .i64 0] 3)).alloc (.cells #[.pointer P] 60)).alloc (.cells #[.int .i64 a] 3)).alloc (.cells #[.int .i64 b] 3)
  have bN := (((Boxed.new (w.alloc (.cells #[.pointer P] 60)) 3 (.int .i64 0)).alloc (.cells #[.pointer P] 60)).alloc (.cells #[.int .i64 a] 3)).alloc (.cells #[.int .i64 b] 3)
  have b1 := ((Boxed.new ((w.alloc (.cells #[.pointer P] 60)).alloc (.cells #[.int .i64 0] 3)) 60 (.pointer P)).alloc (.cells #[.int .i64 a] 3)).alloc (.cells #[.int .i64 b] 3)
  have b2 := (Boxed.new (((w.alloc (.cells #[.pointer P] 60)).alloc (.cells #[.int .i64 0] 3)).alloc (.cells #[.pointer P] 60)) 3 (.int .i64 a)).alloc (.cells #[.int .i64 b] 3)
  have b3 := Boxed.new ((((w.alloc (.cells #[.pointer P] 60)).alloc (.cells #[.int .i64 0] 3)).alloc (.cells #[.pointer P] 60)).alloc (.cells #[.int .i64 a] 3)) 3 (.int .i64 b)
  have hN0 : Nw w (((((w.alloc (.cells #[.pointer P] 60)).alloc (.cells #[.int .i64 0] 3)).alloc (.cells #[.pointer P] 60)).alloc (.cells #[.int .i64 a] 3)).alloc (.cells #[.int .i64 b] 3)) := (((((Fr.refl _ w).alloc _).alloc _).alloc _).alloc _).alloc _
  have hsz : (((((w.alloc (.cells #[.pointer P] 60)).alloc (.cells #[.int .i64 0] 3)).alloc (.cells #[.pointer P] 60)).alloc (.cells #[.int .i64 a] 3)).alloc (.cells #[.int .i64 b] 3)).heap.size = w.heap.size + 5 := by simp
  simp only [World.size_alloc] at bN b1 b2 b3
  obtain ⟨W0, hW0⟩ : ∃ W0, (((((w.alloc (.cells #[.pointer P] 60)).alloc (.cells #[.int .i64 0] 3)).alloc (.cells #[.pointer P] 60)).alloc (.cells #[.int .i64 a] 3)).alloc (.cells #[.int .i64 b] 3)) = W0 := ⟨_, rfl⟩
  rw [hW0] at bS bN b1 b2 b3 hN0 hsz ⊢
  have HS0 := Lib.hid (HS.out.nw hN0)
  clear hW0
  refine wpIn_rangeFunc_ownH rfl (by decide) (gf := 84) (lb := #[.pointer (some ⟨w.heap.size + 1 + 1 + 1, 0, none⟩), .pointer (some ⟨w.heap.size + 1 + 1 + 1 + 1, 0, none⟩), .pointer (some ⟨w.heap.size + 1 + 1, 0, none⟩)]) rfl trivial (enters_of Tryd.func84 (by kernel_rfl) rfl)
    (parts_stops _ (by decide) (w.heap.size + 1 + 1) P q n B a b W0 HS0.out b1.cell b2.cell b3.cell) (fun _ _ => trivial) (fun _ _ _ _ _ _ _ _ => trivial) (Below.refl _ _) (fun _ => rfl)
    (fun (pre : List (Part n)) W => (Boxed W (w.heap.size + 1) 3 (.int .i64 (((pre.map (·.1)).foldl fillF (B, 0)).2 : Nat)) ∧ Boxed W w.heap.size 60 (.pointer P)) ∧ (SP W P q n ((pre.map (·.1)).foldl fillF (B, 0)).1 ∧ Fr (One q) w W))
    (fun _ _ _ => False)
    (OwnFrom.and (OwnFrom.and (Own.from (boxed_own _ _ (fun pre : List (Part n) => Value.int .i64 (((pre.map (·.1)).foldl fillF (B, 0)).2 : Nat))) _) (Own.from (boxed_own _ _ _) _)) (OwnFrom.and (sp_own _ P q n (fun pre : List (Part n) => ((pre.map (·.1)).foldl fillF (B, 0)).1)) (fr_own (by omega))))
    (fun _ _ _ _ _ hs _ _ => hs)
    ⟨⟨bN, bS⟩, HS0.out, hN0.mono (fun _ _ h => h.elim)⟩
    (fun y a' W => ∃ Bx, w.heap.size + 1 < Bx ∧ W.heap[Bx]? = some (.cells #[.int .i64 (y.1.1 : Nat), .int .u64 (y.1.2 : Nat)] 93 (0, 0)) ∧ a' = { tmps := #[.pointer P, .int .i64 a, .int .i64 b, .pointer (some ⟨w.heap.size, 0, none⟩), undef, undef, .int .i64 0, .pointer (some ⟨w.heap.size + 1, 0, none⟩), .pointer (some ⟨Bx, 0, none⟩), .pointer P, .int .i64 a, .int .i64 b, .func (.func 84) #[] #[.pointer (some ⟨w.heap.size + 1 + 1 + 1, 0, none⟩), .pointer (some ⟨w.heap.size + 1 + 1 + 1 + 1, 0, none⟩), .pointer (some ⟨w.heap.size + 1 + 1, 0, none⟩)], .agg #[.int .i64 (y.1.1 : Nat), .int .u64 (y.1.2 : Nat)], undef, undef, undef, undef, undef, undef, undef, undef, undef, undef, undef, undef, undef, undef, undef, undef, undef, undef, undef, undef, undef, undef, undef, undef, undef, undef, undef], defers := [] })
    (fun y a' _ X Y row hs hg hr => by obtain ⟨Bx, h1, h2, h3⟩ := hs; exact ⟨Bx, h1, own_blk hg hr h2, h3⟩)
    ?assign ?body ?done ?stop
  case assign =>
    rintro l pre y W K ⟨⟨bN1, bS1⟩, hS1, hN1⟩ hK
    have hE : encPart n y = #[.agg #[.int .i64 (y.1.1 : Nat), .int .u64 (y.1.2 : Nat)]] := rfl
    rw [hE]
    gi_wp2
    exact hK _ _ ((KeepsOthers.alloc _ _).from _) trivial ⟨⟨bN1.alloc _, bS1.alloc _⟩, hS1.nw ((Fr.refl _ _).alloc _), hN1.alloc _⟩ ⟨W.heap.size, bN1.lt, blk_new _ _, rfl⟩
  case body =>
    rintro l pre y a' W hl _ ⟨⟨bN1, bS1⟩, hS1, hN1⟩ ⟨Bx, hBx, bX, rfl⟩ hlt
    have hbd := fill_bd (pre.map (·.1)) (B, 0)
    rw [List.length_map] at hbd
    have hsn : ((pre ++ [y]).map (·.1)).foldl fillF (B, 0) = fillF ((pre.map (·.1)).foldl fillF (B, 0)) y.1 := by
      rw [List.map_append, List.foldl_append]; rfl
    obtain ⟨⟨Bc, x⟩, hst⟩ : ∃ s, s = (pre.map (·.1)).foldl fillF (B, 0) := ⟨_, rfl⟩
    rw [← hst] at bN1 hS1 hsn hbd
    simp only [Nat.zero_add] at hbd hS1 bN1
    obtain ⟨⟨at', mk⟩, hat, hmk⟩ := y
    simp only at hat hmk bX hsn ⊢
    have hql := HS.out.qlt (by omega)
    have hpl : ∀ k, P = some ⟨k, 0, none⟩ → k < w.heap.size := fun k hk => by
      obtain ⟨p, hP, hSt⟩ := HS.out.pos (by omega)
      rw [hP] at hk; cases hk; exact hSt.plt
    have HPl := Lib.hid hpl
    have HS1 := Lib.hid hS1
    obtain ⟨p, hP, hSt⟩ := hS1.pos (by omega)
    subst hP
    have hplt := HPl.out p rfl
    clear hpl hS1
    have HW := Lib.hid (rfl : wordN Bc at' = wordN Bc at')
    obtain ⟨c, hw1, hw2, hw3⟩ := hSt.word hat
    obtain ⟨hx1, hx2⟩ := parts_cell W Bx _ _ bX
    have cN := bN1.cell
    have fN := bN1.frozen
    have cS := bS1.cell
    have hwl := wordN_lt Bc at'
    have HWd := Lib.hid (orP_word Bc (at', mk) hmk)
    have HWo := Lib.hid (fun j => orP_other Bc j (at', mk) hmk)
    have HLt := Lib.hid (orP_lt (y := (at', mk)) hSt.lt hmk hat)
    have HSn := Lib.hid hsn
    have HSt := Lib.hid hSt
    clear hsn hst hSt HW
    have HF : Hid (fillF (Bc, x) (at', mk) = (orP Bc (at', mk), x + cntN ((fun wd : Nat => mk &&& notN wd) (wordN Bc at')))) := Lib.hid rfl
    have HWd2 : Hid (wordN (orP Bc (at', mk)) at' = (fun wd : Nat => wd ||| mk) (wordN Bc at')) := HWd
    clear HWd
    obtain ⟨wd, hwd⟩ : ∃ wd, wd = wordN Bc at' := ⟨_, rfl⟩
    rw [← hwd] at hw2 hwl HF HWd2
    have HWd0 := Lib.hid hwd
    clear hwd
    simp only at HF HWd2
    have HC := Lib.hid (fun w' => count_calls (mk &&& notN wd) w' (and_lt' _ _ (by first | exact hmk | exact hwl)))
    have ha := andNot_u64 mk wd hmk hwl
    have hb := or_u64 wd mk hwl hmk
    have hcl := cntN_le (mk &&& notN wd)
    obtain ⟨u, hu⟩ : ∃ u, u = mk &&& notN wd := ⟨_, rfl⟩
    rw [← hu] at ha HC hcl HF
    obtain ⟨k, hk⟩ : ∃ k, k = cntN u := ⟨_, rfl⟩
    rw [← hk] at HC hcl HF
    obtain ⟨v, hv⟩ : ∃ v, v = wd ||| mk := ⟨_, rfl⟩
    rw [← hv] at hb HWd2
    clear hu hk hv
    have hat2 : (at' : Int) < n := by omega
    have hs : IntKind.i64.wrap ((x : Int) + (k : Int)) = ((x + k : Nat) : Int) := by have := IntWalk.i64_in ((x : Int) + k) (by omega); rw [this]; rfl
    gi_wp2
    refine wpIn_round_still 14 (by kernel_rfl) (by rintro ⟨a, w, h⟩; exact h) (by kernel_rfl) (by kernel_rfl) ?_
    simp only [List.take_succ_cons, List.take_zero, List.drop_succ_cons, List.drop_zero]
    repeat still_step
    still_call (Calls.mono (HC.out _) (fun _ _ h => ⟨h.1, h.2.symm⟩))
    repeat still_step
    refine wpStill_nil ?_
    go_wp2
    have hN2 := (hN1.setN (b := w.heap.size + 1) (by omega) 0 (Value.int .i64 ((x : Int) + k))).drew
    have hkf1 := KeepsOthers.setCell W ⟨w.heap.size + 1, 0, none⟩ (Value.int .i64 ((x : Int) + k))
    have hO : Fr (One (w.heap.size + 1)) W (W.setCell ⟨w.heap.size + 1, 0, none⟩ (Value.int .i64 ((x : Int) + k))).drew := ((Fr.refl _ W).set (One.self _) 0 _).drew
    have hkf : KeepsOthers W (W.setCell ⟨w.heap.size + 1, 0, none⟩ (Value.int .i64 ((x : Int) + k))).drew := ⟨hkf1.size, hkf1.same⟩
    have hSt1 := HSt.out.nw hO (by exact One.ne (by omega)) (by exact One.ne (by omega))
    have bN2 : Boxed (W.setCell ⟨w.heap.size + 1, 0, none⟩ (Value.int .i64 ((x : Int) + k))).drew (w.heap.size + 1) 3 (.int .i64 ((x : Int) + k)) := bN1.set _
    have bS2 : Boxed (W.setCell ⟨w.heap.size + 1, 0, none⟩ (Value.int .i64 ((x : Int) + k))).drew w.heap.size 60 (.pointer (some ⟨p, 0, none⟩)) := bS1.other (by omega) _
    have bX2 := hO.blk bX (by exact One.ne (by omega))
    obtain ⟨W1, hW1⟩ : ∃ W1, W1 = (W.setCell ⟨w.heap.size + 1, 0, none⟩ (Value.int .i64 ((x : Int) + k))).drew := ⟨_, rfl⟩
    rw [← hW1] at hN2 hkf hSt1 bN2 bS2 bX2 ⊢
    clear hW1 hO hkf1 hw1 hw2 hw3 hx1 hx2 cN fN cS bN1 bS1 bX ha HC
    obtain ⟨c2, hw1, hw2, hw3⟩ := hSt1.word hat
    rw [← HWd0.out] at hw2
    obtain ⟨hx1, hx2⟩ := parts_cell W1 Bx _ _ bX2
    have cS := bS2.cell
    have HSt1 := Lib.hid hSt1
    clear hSt1
    refine wpIn_round_still 12 (by kernel_rfl) (by rintro ⟨a, w, h⟩; exact h) (by kernel_rfl) (by kernel_rfl) ?_
    simp only [List.take_succ_cons, List.take_zero, List.drop_succ_cons, List.drop_zero]
    repeat still_step
    refine wpStill_nil ?_
    go_wp2
    have hkf2 := KeepsOthers.setCell W1 ⟨q, at', none⟩ (Value.int .u64 (v : Int))
    have hkf3 := (hkf.trans hkf2).from W0.heap.size
    have hS2 : SP (W1.setCell ⟨q, at', none⟩ (Value.int .u64 (v : Int))) (some ⟨p, 0, none⟩) q n (orP Bc (at', mk)) := .inl ⟨p, rfl, HSt1.out.put hat HLt.out HWd2.out HWo.out⟩
    refine ⟨⟨hkf3.size, hkf3.same⟩, trivial, ⟨?_, ?_⟩, ?_, ((hN2.set (One.self q) at' _).drew)⟩
    · rw [HSn.out, HF.out]
      exact boxed_far bN2 (by omega) _ _
    · exact boxed_far bS2 (by omega) _ _
    · rw [HSn.out, HF.out]
      exact hS2.keep (fun _ _ _ _ _ hb => hb)
  case done =>
    rintro D ys W hD hys ⟨⟨bN1, bS1⟩, hS1, hN1⟩ hK
    have HV : Hid ((ys.map (·.1)).foldl fillF (B, 0) = (fillN B (fromN a) (toN b (64 * n)), toN b (64 * n) - fromN a - segN B (fromN a) (toN b (64 * n)))) := Lib.hid (by rw [hys, fold_fill'])
    rw [HV.out] at bN1 hS1
    have cN := bN1.cell
    simp only at cN hS1
    obtain ⟨x, hx⟩ : ∃ x, x = toN b (64 * n) - fromN a - segN B (fromN a) (toN b (64 * n)) := ⟨_, rfl⟩
    rw [← hx] at cN
    have HX := Lib.hid hx
    clear hx hys HV bN1
    gi_wp2
    refine ⟨by simp, .inl ⟨_, _, rfl, run_takeDeferred hK, ?_⟩⟩
    have hbl := belowK_b (w := w) (Nat.le_refl _) W D _ (.deferred none) (by omega) hK rfl rfl
    exact ⟨_, results_tmp rfl _ _ _, by rw [← HX.out]; rfl, hS1.keep (fun j cs t m _ hb => (World.putObj_heap_other (by rintro rfl; rw [hK] at hb; cases hb)).trans hb), hN1.trans_of (T := fun j => w.heap.size ≤ j) ⟨rfl, rfl, rfl, by simp, fun j _ hj => hbl.block j (by omega)⟩ (fun j hj h => by omega)⟩
  case stop =>
    rintro D c pre W _ _ h _
    exact h.elim
set_option maxRecDepth 100000 in
set_option maxHeartbeats 4000000 in
theorem wipe_calls (P : Option Addr) (q n B : Nat) (a b : Int) (w : World) (h : SP w P q n B) :
    Calls Tryd.prog 49 #[.pointer P, .int .i64 a, .int .i64 b] w fun e w' => e = .returned (.int .i64 (segN B (fromN a) (toN b (64 * n)) : Nat)) ∧ SP w' P q n (wipeN B (fromN a) (toN b (64 * n))) ∧ Fr (One q) w w' := by
  have HS := Lib.hid h
  have hn := h.le
  clear h
  refine (callsIn_wide (n := 3)).1 ?_
  refine callsIn_of_wp_marks Tryd.func49 rfl trivial ?_ rfl
  simp only [Tryd.ntmps49, List.size_toArray, List.length_cons, List.length_nil, Nat.reduceAdd, Nat.reduceSub, Array.replicate_succ, Array.replicate_zero, List.push_toArray, List.append_toArray, List.nil_append, List.cons_append]
  gi_wp2_with (refine ⟨trivial, ?_⟩; gi_at_call 69; refine (callsIn_wide.2 (parts_calls P a b _)).mono ?_; rintro e w' ⟨rfl, rfl⟩)
  have bS := ((((Boxed.new w 60 (.pointer P)).alloc (.cells #[.int .i64 0] 3)).alloc (.cells #[.pointer P] 60)).alloc (.cells #[.int .i64 a] 3)).alloc (.cells #[.int .i64 b] 3)
  have bN := (((Boxed.new (w.alloc (.cells #[.pointer P] 60)) 3 (.int .i64 0)).alloc (.cells #[.pointer P] 60)).alloc (.cells #[.int .i64 a] 3)).alloc (.cells #[.int .i64 b] 3)
  have b1 := ((Boxed.new ((w.alloc (.cells #[.pointer P] 60)).alloc (.cells #[.int .i64 0] 3)) 60 (.pointer P)).alloc (.cells #[.int .i64 a] 3)).alloc (.cells #[.int .i64 b] 3)
  have b2 := (Boxed.new (((w.alloc (.cells #[.pointer P] 60)).alloc (.cells #[.int .i64 0] 3)).alloc (.cells #[.pointer P] 60)) 3 (.int .i64 a)).alloc (.cells #[.int .i64 b] 3)
  have b3 := Boxed.new ((((w.alloc (.cells #[.pointer P] 60)).alloc (.cells #[.int .i64 0] 3)).alloc (.cells #[.pointer P] 60)).alloc (.cells #[.int .i64 a] 3)) 3 (.int .i64 b)
  have hN0 : Nw w (((((w.alloc (.cells #[.pointer P] 60)).alloc (.cells #[.int .i64 0] 3)).alloc (.cells #[.pointer P] 60)).alloc (.cells #[.int .i64 a] 3)).alloc (.cells #[.int .i64 b] 3)) := (((((Fr.refl _ w).alloc _).alloc _).alloc _).alloc _).alloc _
  have hsz : (((((w.alloc (.cells #[.pointer P] 60)).alloc (.cells #[.int .i64 0] 3)).alloc (.cells #[.pointer P] 60)).alloc (.cells #[.int .i64 a] 3)).alloc (.cells #[.int .i64 b] 3)).heap.size = w.heap.size + 5 := by simp
  simp only [World.size_alloc] at bN b1 b2 b3
  obtain ⟨W0, hW0⟩ : ∃ W0, (((((w.alloc (.cells #[.pointer P] 60)).alloc (.cells #[.int .i64 0] 3)).alloc (.cells #[.pointer P] 60)).alloc (.cells #[.int .i64 a] 3)).alloc (.cells #[.int .i64 b] 3)) = W0 := ⟨_, rfl⟩
  rw [hW0] at bS bN b1 b2 b3 hN0 hsz ⊢
  have HS0 := Lib.hid (HS.out.nw hN0)
  clear hW0
  refine wpIn_rangeFunc_ownH rfl (by decide) (gf := 84) (lb := #[.pointer (some ⟨w.heap.size + 1 + 1 + 1, 0, none⟩), .pointer (some ⟨w.heap.size + 1 + 1 + 1 + 1, 0, none⟩), .pointer (some ⟨w.heap.size + 1 + 1, 0, none⟩)]) rfl trivial (enters_of Tryd.func84 (by kernel_rfl) rfl)
    (parts_stops _ (by decide) (w.heap.size + 1 + 1) P q n B a b W0 HS0.out b1.cell b2.cell b3.cell) (fun _ _ => trivial) (fun _ _ _ _ _ _ _ _ => trivial) (Below.refl _ _) (fun _ => rfl)
    (fun (pre : List (Part n)) W => (Boxed W (w.heap.size + 1) 3 (.int .i64 (((pre.map (·.1)).foldl wipeF (B, 0)).2 : Nat)) ∧ Boxed W w.heap.size 60 (.pointer P)) ∧ (SP W P q n ((pre.map (·.1)).foldl wipeF (B, 0)).1 ∧ Fr (One q) w W))
    (fun _ _ _ => False)
    (OwnFrom.and (OwnFrom.and (Own.from (boxed_own _ _ (fun pre : List (Part n) => Value.int .i64 (((pre.map (·.1)).foldl wipeF (B, 0)).2 : Nat))) _) (Own.from (boxed_own _ _ _) _)) (OwnFrom.and (sp_own _ P q n (fun pre : List (Part n) => ((pre.map (·.1)).foldl wipeF (B, 0)).1)) (fr_own (by omega))))
    (fun _ _ _ _ _ hs _ _ => hs)
    ⟨⟨bN, bS⟩, HS0.out, hN0.mono (fun _ _ h => h.elim)⟩
    (fun y a' W => ∃ Bx, w.heap.size + 1 < Bx ∧ W.heap[Bx]? = some (.cells #[.int .i64 (y.1.1 : Nat), .int .u64 (y.1.2 : Nat)] 93 (0, 0)) ∧ a' = { tmps := #[.pointer P, .int .i64 a, .int .i64 b, .pointer (some ⟨w.heap.size, 0, none⟩), undef, undef, .int .i64 0, .pointer (some ⟨w.heap.size + 1, 0, none⟩), .pointer (some ⟨Bx, 0, none⟩), .pointer P, .int .i64 a, .int .i64 b, .func (.func 84) #[] #[.pointer (some ⟨w.heap.size + 1 + 1 + 1, 0, none⟩), .pointer (some ⟨w.heap.size + 1 + 1 + 1 + 1, 0, none⟩), .pointer (some ⟨w.heap.size + 1 + 1, 0, none⟩)], .agg #[.int .i64 (y.1.1 : Nat), .int .u64 (y.1.2 : Nat)], undef, undef, undef, undef, undef, undef, undef, undef, undef, undef, undef, undef, undef, undef, undef, undef, undef, undef, undef, undef, undef, undef, undef, undef, undef, undef, undef], defers := [] })
    (fun y a' _ X Y row hs hg hr => by obtain ⟨Bx, h1, h2, h3⟩ := hs; exact ⟨Bx, h1, own_blk hg hr h2, h3⟩)
    ?assign ?body ?done ?stop
  case assign =>
    rintro l pre y W K ⟨⟨bN1, bS1⟩, hS1, hN1⟩ hK
    have hE : encPart n y = #[.agg #[.int .i64 (y.1.1 : Nat), .int .u64 (y.1.2 : Nat)]] := rfl
    rw [hE]
    gi_wp2
    exact hK _ _ ((KeepsOthers.alloc _ _).from _) trivial ⟨⟨bN1.alloc _, bS1.alloc _⟩, hS1.nw ((Fr.refl _ _).alloc _), hN1.alloc _⟩ ⟨W.heap.size, bN1.lt, blk_new _ _, rfl⟩
  case body =>
    rintro l pre y a' W hl _ ⟨⟨bN1, bS1⟩, hS1, hN1⟩ ⟨Bx, hBx, bX, rfl⟩ hlt
    have hbd := wipe_bd (pre.map (·.1)) (B, 0)
    rw [List.length_map] at hbd
    have hsn : ((pre ++ [y]).map (·.1)).foldl wipeF (B, 0) = wipeF ((pre.map (·.1)).foldl wipeF (B, 0)) y.1 := by
      rw [List.map_append, List.foldl_append]; rfl
    obtain ⟨⟨Bc, x⟩, hst⟩ : ∃ s, s = (pre.map (·.1)).foldl wipeF (B, 0) := ⟨_, rfl⟩
    rw [← hst] at bN1 hS1 hsn hbd
    simp only [Nat.zero_add] at hbd hS1 bN1
    obtain ⟨⟨at', mk⟩, hat, hmk⟩ := y
    simp only at hat hmk bX hsn ⊢
    have hql := HS.out.qlt (by omega)
    have hpl : ∀ k, P = some ⟨k, 0, none⟩ → k < w.heap.size := fun k hk => by
      obtain ⟨p, hP, hSt⟩ := HS.out.pos (by omega)
      rw [hP] at hk; cases hk; exact hSt.plt
    have HPl := Lib.hid hpl
    have HS1 := Lib.hid hS1
    obtain ⟨p, hP, hSt⟩ := hS1.pos (by omega)
    subst hP
    have hplt := HPl.out p rfl
    clear hpl hS1
    have HW := Lib.hid (rfl : wordN Bc at' = wordN Bc at')
    obtain ⟨c, hw1, hw2, hw3⟩ := hSt.word hat
    obtain ⟨hx1, hx2⟩ := parts_cell W Bx _ _ bX
    have cN := bN1.cell
    have fN := bN1.frozen
    have cS := bS1.cell
    have hwl := wordN_lt Bc at'
    have HWd := Lib.hid (clrP_word Bc (at', mk) hmk)
    have HWo := Lib.hid (fun j => clrP_other Bc j (at', mk) hmk)
    have HLt := Lib.hid (clrP_lt (y := (at', mk)) hSt.lt)
    have HSn := Lib.hid hsn
    have HSt := Lib.hid hSt
    clear hsn hst hSt HW
    have HF : Hid (wipeF (Bc, x) (at', mk) = (clrP Bc (at', mk), x + cntN ((fun wd : Nat => mk &&& wd) (wordN Bc at')))) := Lib.hid rfl
    have HWd2 : Hid (wordN (clrP Bc (at', mk)) at' = (fun wd : Nat => wd &&& notN mk) (wordN Bc at')) := HWd
    clear HWd
    obtain ⟨wd, hwd⟩ : ∃ wd, wd = wordN Bc at' := ⟨_, rfl⟩
    rw [← hwd] at hw2 hwl HF HWd2
    have HWd0 := Lib.hid hwd
    clear hwd
    simp only at HF HWd2
    have HC := Lib.hid (fun w' => count_calls (mk &&& wd) w' (and_lt' _ _ (by first | exact hmk | exact hwl)))
    have ha := and_u64 mk wd hmk hwl
    have hb := andNot_u64 wd mk hwl hmk
    have hcl := cntN_le (mk &&& wd)
    obtain ⟨u, hu⟩ : ∃ u, u = mk &&& wd := ⟨_, rfl⟩
    rw [← hu] at ha HC hcl HF
    obtain ⟨k, hk⟩ : ∃ k, k = cntN u := ⟨_, rfl⟩
    rw [← hk] at HC hcl HF
    obtain ⟨v, hv⟩ : ∃ v, v = wd &&& notN mk := ⟨_, rfl⟩
    rw [← hv] at hb HWd2
    clear hu hk hv
    have hat2 : (at' : Int) < n := by omega
    have hs : IntKind.i64.wrap ((x : Int) + (k : Int)) = ((x + k : Nat) : Int) := by have := IntWalk.i64_in ((x : Int) + k) (by omega); rw [this]; rfl
    gi_wp2
    refine wpIn_round_still 14 (by kernel_rfl) (by rintro ⟨a, w, h⟩; exact h) (by kernel_rfl) (by kernel_rfl) ?_
    simp only [List.take_succ_cons, List.take_zero, List.drop_succ_cons, List.drop_zero]
    repeat still_step
    still_call (Calls.mono (HC.out _) (fun _ _ h => ⟨h.1, h.2.symm⟩))
    repeat still_step
    refine wpStill_nil ?_
    go_wp2
    have hN2 := (hN1.setN (b := w.heap.size + 1) (by omega) 0 (Value.int .i64 ((x : Int) + k))).drew
    have hkf1 := KeepsOthers.setCell W ⟨w.heap.size + 1, 0, none⟩ (Value.int .i64 ((x : Int) + k))
    have hO : Fr (One (w.heap.size + 1)) W (W.setCell ⟨w.heap.size + 1, 0, none⟩ (Value.int .i64 ((x : Int) + k))).drew := ((Fr.refl _ W).set (One.self _) 0 _).drew
    have hkf : KeepsOthers W (W.setCell ⟨w.heap.size + 1, 0, none⟩ (Value.int .i64 ((x : Int) + k))).drew := ⟨hkf1.size, hkf1.same⟩
    have hSt1 := HSt.out.nw hO (by exact One.ne (by omega)) (by exact One.ne (by omega))
    have bN2 : Boxed (W.setCell ⟨w.heap.size + 1, 0, none⟩ (Value.int .i64 ((x : Int) + k))).drew (w.heap.size + 1) 3 (.int .i64 ((x : Int) + k)) := bN1.set _
    have bS2 : Boxed (W.setCell ⟨w.heap.size + 1, 0, none⟩ (Value.int .i64 ((x : Int) + k))).drew w.heap.size 60 (.pointer (some ⟨p, 0, none⟩)) := bS1.other (by omega) _
    have bX2 := hO.blk bX (by exact One.ne (by omega))
    obtain ⟨W1, hW1⟩ : ∃ W1, W1 = (W.setCell ⟨w.heap.size + 1, 0, none⟩ (Value.int .i64 ((x : Int) + k))).drew := ⟨_, rfl⟩
    rw [← hW1] at hN2 hkf hSt1 bN2 bS2 bX2 ⊢
    clear hW1 hO hkf1 hw1 hw2 hw3 hx1 hx2 cN fN cS bN1 bS1 bX ha HC
    obtain ⟨c2, hw1, hw2, hw3⟩ := hSt1.word hat
    rw [← HWd0.out] at hw2
    obtain ⟨hx1, hx2⟩ := parts_cell W1 Bx _ _ bX2
    have cS := bS2.cell
    have HSt1 := Lib.hid hSt1
    clear hSt1
    refine wpIn_round_still 12 (by kernel_rfl) (by rintro ⟨a, w, h⟩; exact h) (by kernel_rfl) (by kernel_rfl) ?_
    simp only [List.take_succ_cons, List.take_zero, List.drop_succ_cons, List.drop_zero]
    repeat still_step
    refine wpStill_nil ?_
    go_wp2
    have hkf2 := KeepsOthers.setCell W1 ⟨q, at', none⟩ (Value.int .u64 (v : Int))
    have hkf3 := (hkf.trans hkf2).from W0.heap.size
    have hS2 : SP (W1.setCell ⟨q, at', none⟩ (Value.int .u64 (v : Int))) (some ⟨p, 0, none⟩) q n (clrP Bc (at', mk)) := .inl ⟨p, rfl, HSt1.out.put hat HLt.out HWd2.out HWo.out⟩
    refine ⟨⟨hkf3.size, hkf3.same⟩, trivial, ⟨?_, ?_⟩, ?_, ((hN2.set (One.self q) at' _).drew)⟩
    · rw [HSn.out, HF.out]
      exact boxed_far bN2 (by omega) _ _
    · exact boxed_far bS2 (by omega) _ _
    · rw [HSn.out, HF.out]
      exact hS2.keep (fun _ _ _ _ _ hb => hb)
  case done =>
    rintro D ys W hD hys ⟨⟨bN1, bS1⟩, hS1, hN1⟩ hK
    have HV : Hid ((ys.map (·.1)).foldl wipeF (B, 0) = (wipeN B (fromN a) (toN b (64 * n)), segN B (fromN a) (toN b (64 * n)))) := Lib.hid (by rw [hys, fold_wipe'])
    rw [HV.out] at bN1 hS1
    have cN := bN1.cell
    simp only at cN hS1
    obtain ⟨x, hx⟩ : ∃ x, x = segN B (fromN a) (toN b (64 * n)) := ⟨_, rfl⟩
    rw [← hx] at cN
    have HX := Lib.hid hx
    clear hx hys HV bN1
    gi_wp2
    refine ⟨by simp, .inl ⟨_, _, rfl, run_takeDeferred hK, ?_⟩⟩
    have hbl := belowK_b (w := w) (Nat.le_refl _) W D _ (.deferred none) (by omega) hK rfl rfl
    exact ⟨_, results_tmp rfl _ _ _, by rw [← HX.out]; rfl, hS1.keep (fun j cs t m _ hb => (World.putObj_heap_other (by rintro rfl; rw [hK] at hb; cases hb)).trans hb), hN1.trans_of (T := fun j => w.heap.size ≤ j) ⟨rfl, rfl, rfl, by simp, fun j _ hj => hbl.block j (by omega)⟩ (fun j hj h => by omega)⟩
  case stop =>
    rintro D c pre W _ _ h _
    exact h.elim

end Go.Proofs.YtiekoidlibhoeaaDoor
