/-
  Merged by merge.py: TrShelf TrInv TrWalk TrWalk2.
-/
import Derived.Shelf.Spec.SlicesInsert
import Derived.Shelf.Spec.SlicesInsertGrow
import Derived.Shelf.Slices.Clone
import Derived.Shelf.Slices.Cells
import Derived.Ground.Names2Prog
import Derived.Test.YtnhdcefoigmjpaaDoorTrB
import Derived.Test.YtnhdcefoigmjpaaDoorRound
/-
  slices.Clone, slices.Insert and slices.Delete at []int: laid off the kit's shelf; then over rows that a call owns.
-/
namespace Go.Proofs
open Go.Shelf
def Tryd.laysNm215_ren : Go.Shelf.Ren := ⟨fun | 15 => 55 | n => n, fun | 22 => 71 | 3 => 3 | 4 => 4 | n => n, fun | n => n⟩
theorem Tryd.laysNm215 : Go.Proofs.Lays2.n15 Tryd.prog Tryd.laysNm215_ren := {
  mixed := by kernel_rfl
  f15 := Tryd.func55.trans (congrArg some (by kernel_rfl))
  t3 := Tryd.underlying3
  a3 := Tryd.isAgg3
  z3 := Tryd.sizeOf3
  v3 := Tryd.zeroValue3
  t4 := Tryd.underlying4
  a4 := Tryd.isAgg4
  z4 := Tryd.sizeOf4
  v4 := Tryd.zeroValue4
  t22 := Tryd.underlying71
  a22 := Tryd.isAgg71
  z22 := Tryd.sizeOf71
  v22 := Tryd.zeroValue71
  i3 := by kernel_rfl }
def Tryd.laysNm223_ren : Go.Shelf.Ren := ⟨fun | 23 => 60 | n => n, fun | 22 => 71 | 3 => 3 | 4 => 4 | 0 => 0 | n => n, fun | n => n⟩
theorem Tryd.laysNm223 : Go.Proofs.Lays2.n23 Tryd.prog Tryd.laysNm223_ren := {
  mixed := by kernel_rfl
  f23 := Tryd.func60.trans (congrArg some (by kernel_rfl))
  t0 := Tryd.underlying0
  a0 := Tryd.isAgg0
  z0 := Tryd.sizeOf0
  v0 := Tryd.zeroValue0
  t3 := Tryd.underlying3
  a3 := Tryd.isAgg3
  z3 := Tryd.sizeOf3
  v3 := Tryd.zeroValue3
  t4 := Tryd.underlying4
  a4 := Tryd.isAgg4
  z4 := Tryd.sizeOf4
  v4 := Tryd.zeroValue4
  t22 := Tryd.underlying71
  a22 := Tryd.isAgg71
  z22 := Tryd.sizeOf71
  v22 := Tryd.zeroValue71
  i3 := by kernel_rfl }
def Tryd.laysNm221_ren : Go.Shelf.Ren := ⟨fun | 21 => 54 | 27 => 81 | 28 => 82 | 35 => 90 | 39 => 91 | n => n, fun | 22 => 71 | 3 => 3 | 4 => 4 | 0 => 0 | n => n, fun | n => n⟩
theorem Tryd.laysNm221 : Go.Proofs.Lays2.n21 Tryd.prog Tryd.laysNm221_ren := {
  mixed := by kernel_rfl
  f21 := Tryd.func54.trans (congrArg some (by kernel_rfl))
  f27 := Tryd.func81.trans (congrArg some (by kernel_rfl))
  f28 := Tryd.func82.trans (congrArg some (by kernel_rfl))
  f35 := Tryd.func90.trans (congrArg some (by kernel_rfl))
  f39 := Tryd.func91.trans (congrArg some (by kernel_rfl))
  t0 := Tryd.underlying0
  a0 := Tryd.isAgg0
  z0 := Tryd.sizeOf0
  v0 := Tryd.zeroValue0
  t3 := Tryd.underlying3
  a3 := Tryd.isAgg3
  z3 := Tryd.sizeOf3
  v3 := Tryd.zeroValue3
  t4 := Tryd.underlying4
  a4 := Tryd.isAgg4
  z4 := Tryd.sizeOf4
  v4 := Tryd.zeroValue4
  t22 := Tryd.underlying71
  a22 := Tryd.isAgg71
  z22 := Tryd.sizeOf71
  v22 := Tryd.zeroValue71
  i3 := by kernel_rfl }

namespace YtnhdcefoigmjpaaDoor
open Go.RowKit Go.Proofs.YtnhdcefoigmjpaaDoorW.PrintWords Go.Proofs.YtnhdcefoigmjpaaDoorW.PrintMore
set_option linter.unusedVariables false
set_option linter.unusedSimpArgs false
theorem row_cell {cur : Array Value} {l : List Int} (h : cur.toList.take (l.length * 1) = l.map (Value.int .i64)) {j : Nat} (hj : j < l.length) : cur[j]? = some (.int .i64 (l.getD j 0)) := by
  have h1 : (cur.toList.take (l.length * 1))[j]? = (l.map (Value.int .i64))[j]? := by rw [h]
  rw [List.getElem?_take, if_pos (by omega), List.getElem?_map, List.getElem?_eq_getElem hj] at h1
  rw [← Array.getElem?_toList, h1, List.getD_eq_getElem?_getD, List.getElem?_eq_getElem hj]
  rfl
theorem clone_calls {base : Nat} {v : Value} {l : List Int} (w : World) (h : Kd.R (Kd.int .i64) 3 w base (fun _ => True) v l) (hn : l.length ≤ 1000000) :
    Calls Tryd.prog 55 #[v] w fun e w' => ∃ v', e = .returned v' ∧ Kd.R (Kd.int .i64) 3 w' w.heap.size (fun _ => True) v' l ∧ Nw w w' := by
  obtain ⟨hl, hrow⟩ := Kd.own_of_R h
  rcases hrow with ⟨rfl, h0⟩ | ⟨g, cap, cur, rfl, hg, hb, hc1, hc2, hs, ht⟩
  · refine (Any.slices_Clone_int_nil Tryd.laysNm215 0 0 w).mono ?_
    rintro e w' ⟨rfl, rfl⟩
    obtain rfl : l = [] := List.length_eq_zero_iff.1 h0
    exact ⟨_, rfl, Kd.R_nil _ _ _ _ _, Fr.refl _ _⟩
  · have ht' : cur.toList.take (l.length * 1) = l.map (Value.int .i64) := ht
    refine (Any.slices_Clone_int Tryd.laysNm215 g 0 l.length cap l w (Nat.le_refl _) (by omega) (fun j hj => ?_)).mono ?_
    · rw [Nat.zero_add, blk_cell hb]; exact row_cell ht' hj
    · rintro e w' ⟨v', rfl, ho, _, hbl⟩
      rw [List.take_length] at ho
      exact ⟨v', rfl, Kd.R_of_own ho (fun _ _ => trivial), Fr.of_below hbl⟩
theorem fr_setCells (g : Nat) : ∀ (vs : List Value) (o : Nat) (w : World), Fr (One g) w (w.setCells g o vs)
  | [], _, w => Fr.refl _ w
  | v :: r, o, w => ((Fr.refl (One g) w).set (One.self g) o v).trans (fr_setCells g r (o + 1) _)
theorem maxLen_lt : maxLen ≤ 9223372036854775807 := by unfold maxLen; omega
theorem list_cells {cur : Array Value} {l : List Int} (ht : cur.toList.take (l.length * 1) = l.map (Value.int .i64)) {W : World} {g : Nat} {t : TypeId} {m : Nat × Nat} (hb : W.heap[g]? = some (.cells cur t m)) (j : Nat) (u : Value) (hj : (l.map (Value.int .i64))[j]? = some u) : W.cell? ⟨g, 0 + j, none⟩ = some u := by
  have hjl : j < l.length := by have := (List.getElem?_eq_some_iff.1 hj).1; simpa using this
  rw [Nat.zero_add, blk_cell hb, row_cell ht hjl]
  rw [List.getElem?_map, List.getElem?_eq_getElem hjl] at hj
  rw [List.getD_eq_getElem?_getD, List.getElem?_eq_getElem hjl]
  simpa using hj
theorem one_cells (l : List Int) : ∀ u ∈ l.map (Value.int .i64), u.oneCell' = true := by
  intro u hu
  obtain ⟨a, _, rfl⟩ := List.mem_map.1 hu
  rfl
theorem delete_calls {base : Nat} {v : Value} {l : List Int} (w : World) (h : Kd.R (Kd.int .i64) 3 w base (fun _ => True) v l) (hn : l.length ≤ 1000000) (r : Nat) (hr : r < l.length) :
    Calls Tryd.prog 60 #[v, .int .i64 r, .int .i64 (r + 1 : Nat)] w fun e w' => ∃ v', e = .returned v' ∧ Kd.R (Kd.int .i64) 3 w' base (fun _ => True) v' (l.take r ++ l.drop (r + 1)) ∧ v'.ownBlock = v.ownBlock ∧ Fr (fun k => v.ownBlock = some k) w w' := by
  obtain ⟨hl, hrow⟩ := Kd.own_of_R h
  rcases hrow with ⟨rfl, h0⟩ | ⟨g, cap, cur, rfl, hg, hb, hc1, hc2, hs, ht⟩
  · omega
  · have ht' : cur.toList.take (l.length * 1) = l.map (Value.int .i64) := ht
    refine (Any.slices_Delete_int_cells Tryd.laysNm223 g 0 l.length cap r (r + 1) l w (Nat.le_refl _) hc1 (Nat.le_trans hc2 maxLen_lt) (by omega) (by omega) (fun j hj => ?_) (fun j hj => blk_frozen hb _)).mono ?_
    · rw [Nat.zero_add, blk_cell hb]; exact row_cell ht' hj
    · rintro e w' ⟨rfl, q, rfl⟩
      rw [List.take_length]
      have hlen : ((l.take r ++ l.drop (r + 1) ++ List.replicate (r + 1 - r) 0).map (Value.int .i64)).length = l.length := by simp; omega
      obtain ⟨cur', h3, h4, h5⟩ := setCells_row ((l.take r ++ l.drop (r + 1) ++ List.replicate (r + 1 - r) 0).map (Value.int .i64)) 0 (w.drewN q) cur hb (by rw [hlen]; omega)
      refine ⟨_, rfl, Kd.R_of_own (xs := l.take r ++ l.drop (r + 1)) ⟨by simp [encs], .inr ⟨g, cap, cur', ?_, hg, h3, by simp; omega, hc2, by rw [h4]; exact hs, ?_⟩⟩ (fun _ _ => trivial), rfl, ?_⟩
      · congr 1; simp; omega
      · rw [h5]
        show _ = (l.take r ++ l.drop (r + 1)).map (Value.int .i64)
        rw [List.take_zero, List.nil_append, List.map_append (l₁ := l.take r ++ l.drop (r + 1)), List.append_assoc, List.take_append_of_le_length (by simp), List.take_of_length_le (by simp)]
      · refine (((Fr.refl (One g) w).drewN q).trans (fr_setCells g _ _ _)).mono (fun k _ h => ?_)
        rw [show k = g from h]; rfl

theorem take_shift (A cs : List Value) (c : Value) (n r : Nat) (hcs : A.take n = cs) (hl : cs.length = n) (hr : r < n) (hA : n + 1 ≤ A.length) :
    ((A.take (r + 1) ++ cs.drop r ++ A.drop (r + 1 + (cs.drop r).length)).take r ++ [c] ++ (A.take (r + 1) ++ cs.drop r ++ A.drop (r + 1 + (cs.drop r).length)).drop (r + 1)).take (n + 1) = cs.take r ++ c :: cs.drop r := by
  have h1 : (A.take (r + 1) ++ cs.drop r ++ A.drop (r + 1 + (cs.drop r).length)).take r = cs.take r := by
    rw [List.append_assoc, List.take_append_of_le_length (by simp; omega), List.take_take, Nat.min_eq_left (by omega), ← hcs, List.take_take, Nat.min_eq_left (by omega)]
  have h2 : (A.take (r + 1) ++ cs.drop r ++ A.drop (r + 1 + (cs.drop r).length)).drop (r + 1) = cs.drop r ++ A.drop (r + 1 + (cs.drop r).length) := by
    rw [List.append_assoc, List.drop_append_of_le_length (by simp; omega), List.drop_of_length_le (by simp; omega), List.nil_append]
  rw [h1, h2, ← List.append_assoc, List.take_append_of_le_length (by simp; omega), List.take_of_length_le (by simp; omega)]
  simp
theorem take_grow (cs : List Value) (c : Value) (n r : Nat) (z : List Value) (hl : cs.length = n) (hr : r < n) (hz : n + 1 - r ≤ z.length) :
    (((cs.take r ++ z).take r ++ [c] ++ (cs.take r ++ z).drop (r + 1)).take (r + 1) ++ cs.drop r ++ ((cs.take r ++ z).take r ++ [c] ++ (cs.take r ++ z).drop (r + 1)).drop (r + 1 + (cs.drop r).length)).take (n + 1) = cs.take r ++ c :: cs.drop r := by
  have h0 : (cs.take r).length = r := by simp; omega
  have h1 : (cs.take r ++ z).take r = cs.take r := by rw [List.take_append_of_le_length (by omega), List.take_take, Nat.min_self]
  have h3 : ∀ X : List Value, (cs.take r ++ [c] ++ X).take (r + 1) = cs.take r ++ [c] := fun X => by
    rw [List.take_append_of_le_length (by simp; omega), List.take_of_length_le (by simp; omega)]
  rw [h1, h3, List.take_append_of_le_length (by simp; omega), List.take_of_length_le (by simp; omega)]
  simp
theorem enc_ins (l : List Int) (r : Nat) (c : Int) : encs (Value.int .i64) (l.take r ++ c :: l.drop r) = (encs (Value.int .i64) l).take r ++ Value.int .i64 c :: (encs (Value.int .i64) l).drop r := by
  simp [encs, List.map_take, List.map_drop]
theorem encs_length (l : List Int) : (encs (Value.int .i64) l).length = l.length := by simp [encs]

theorem insert_calls {base : Nat} {v : Value} {l : List Int} (w : World) (h : Kd.R (Kd.int .i64) 3 w base (fun _ => True) v l) (hn : l.length ≤ 1000000) (r : Nat) (hr : r ≤ l.length) (c : Int) (vb : Nat) (tv : TypeId) (hv : w.heap[vb]? = some (.cells #[.int .i64 c] tv (0, 0))) (hne : v.ownBlock ≠ some vb) (hbase : base ≤ w.heap.size) :
    Calls Tryd.prog 54 #[v, .int .i64 r, .slice (some ⟨vb, 0, none⟩) 1 1] w fun e w' => ∃ v', e = .returned v' ∧ Kd.R (Kd.int .i64) 3 w' base (fun _ => True) v' (l.take r ++ c :: l.drop r) ∧ (v'.ownBlock = v.ownBlock ∨ ∃ q, v'.ownBlock = some q ∧ w.heap.size ≤ q) ∧ Fr (fun k => v.ownBlock = some k) w w' := by
  have hc1 : ∀ j u, [Value.int .i64 c][j]? = some u → w.cell? ⟨vb, 0 + j, none⟩ = some u := by
    intro j u hj
    rw [Nat.zero_add, blk_cell hv]
    cases j with
    | zero => simpa using hj
    | succ j => simp at hj
  have h1v : ∀ u ∈ [Value.int .i64 c], u.oneCell' = true := by intro u hu; rw [List.mem_singleton.1 hu]; rfl
  have hlen : (l.take r ++ c :: l.drop r).length = l.length + 1 := by simp; omega
  have hml : ∀ n, n ≤ 1000001 → n ≤ maxLen := fun n hn => by unfold maxLen; omega
  obtain ⟨hl, hrow⟩ := Kd.own_of_R h
  rcases hrow with ⟨rfl, h0⟩ | ⟨g, cap, cur, rfl, hg, hb, hc2, hc3, hs, ht⟩
  · obtain rfl : l = [] := List.length_eq_zero_iff.1 h0
    obtain rfl : r = 0 := Nat.le_zero.1 hr
    refine (Any2.slices_Insert_int_end_grow Tryd.laysNm221 none 0 0 vb 0 1 1 [] [.int .i64 c] w (by omega) (by omega) (by omega) (by omega) rfl rfl (fun _ => rfl) (fun a ha => by cases ha) hc1 h1v).mono ?_
    rintro e w' ⟨rfl, rfl⟩
    have hgc := grownCap_ge w (0 + 1) 0 3
    have hgm := grownCap_le_maxLen w (0 + 1) 0 3 (hml _ (by omega))
    refine ⟨_, rfl, Kd.R_of_own (xs := [c]) ⟨by simp [encs], .inr ⟨_, _, _, rfl, ?_, blk_new _ _, hgc, hgm, ?_, ?_⟩⟩ (fun _ _ => trivial), .inr ⟨_, rfl, Nat.le_refl _⟩, ((Fr.refl _ w).drew).alloc _⟩
    · exact hbase
    · show (([] ++ [Value.int .i64 c]).toArray ++ Builtin.zeroCells (Value.int .i64 0).cells (grownCap w (0 + 1) 0 3 - (0 + 1))).size = grownCap w (0 + 1) 0 3 * 1
      revert hgc
      generalize grownCap w (0 + 1) 0 3 = G
      intro hgc
      rw [Array.size_append, size_zeroCells]; simp [Value.cells]; omega
    · simp [encs]
  · have ht' : cur.toList.take (l.length * 1) = l.map (Value.int .i64) := ht
    have hgb : g ≠ vb := fun e => hne (by rw [← e]; rfl)
    have hcu : ∀ j u, (l.map (Value.int .i64))[j]? = some u → w.cell? ⟨g, 0 + j, none⟩ = some u := fun j u hj => list_cells ht' hb j u hj
    have hsz : cur.size = cap := by rw [hs]; omega
    have hcl : cur.toList.length = cap := by simpa using hsz
    have hsp : ∀ j, j < cap → (w.cell? ⟨g, j, none⟩).isSome = true := fun j hj => by rw [blk_cell hb]; simp; omega
    rcases Nat.lt_or_ge l.length cap with hcap | hcap
    · rcases Nat.lt_or_ge r l.length with hrl | hrl
      · refine (Any2.slices_Insert_int_shift Tryd.laysNm221 g 0 l.length cap r vb 0 1 1 (l.map (Value.int .i64)) [.int .i64 c] w hrl (by omega) (by omega) (Nat.le_trans hc3 maxLen_lt) hgb.symm (by simp) rfl hcu (fun j hj => by rw [Nat.zero_add]; exact hsp j (by omega)) (fun j hj => blk_frozen hb _) hc1 (one_cells l) h1v tv 3 1 cur.size (by simp [World.shape?, hv]) (by simp [World.shape?, hb]) (by omega) (blk_frozen hv _) (blk_frozen hv _)).mono ?_
        rintro e w' ⟨rfl, rfl⟩
        obtain ⟨c3, h3, h4, h5⟩ := setCells_row ((l.map (Value.int .i64)).drop r) (0 + (r + 1)) w.drew cur hb (by simp; omega)
        obtain ⟨c4, h6, h7, h8⟩ := setCells_row [Value.int .i64 c] (0 + r) _ c3 h3 (by simp; omega)
        refine ⟨_, rfl, Kd.R_of_own (xs := l.take r ++ c :: l.drop r) ⟨by rw [encs_length, Nat.mul_one], .inr ⟨g, cap, c4, by rw [hlen], hg, h6, by omega, hc3, by omega, ?_⟩⟩ (fun _ _ => trivial), .inl rfl, ?_⟩
        · rw [h8, h5, enc_ins, hlen, Nat.mul_one, Nat.zero_add, Nat.zero_add, List.length_singleton]
          exact take_shift cur.toList (encs (Value.int .i64) l) _ l.length r (by rw [← ht, Nat.mul_one]) (encs_length l) hrl (by omega)
        · refine (((Fr.refl (One g) w).drew).trans (fr_setCells g _ _ _)).trans (fr_setCells g _ _ _) |>.mono (fun k _ h => ?_)
          rw [show k = g from h]; rfl
      · obtain rfl : r = l.length := by omega
        refine (Any2.slices_Insert_int_end_room Tryd.laysNm221 g 0 l.length cap vb 0 1 1 [.int .i64 c] w (by omega) (by omega) (Nat.le_trans hc3 maxLen_lt) rfl (fun j hj => by rw [Nat.zero_add]; exact hsp _ (by omega)) (fun j hj => blk_frozen hb _) hc1 h1v).mono ?_
        rintro e w' ⟨rfl, rfl⟩
        obtain ⟨c4, h6, h7, h8⟩ := setCells_row [Value.int .i64 c] (0 + l.length) w cur hb (by simp; omega)
        refine ⟨_, rfl, Kd.R_of_own (xs := l.take l.length ++ c :: l.drop l.length) ⟨by rw [encs_length, Nat.mul_one], .inr ⟨g, cap, c4, by rw [hlen], hg, h6, by omega, hc3, by omega, ?_⟩⟩ (fun _ _ => trivial), .inl rfl, ?_⟩
        · rw [h8, hlen, Nat.mul_one, Nat.zero_add, List.length_singleton, enc_ins]
          rw [Nat.mul_one] at ht
          have hA : ∀ X : List Value, (encs (Value.int .i64) l ++ [Value.int .i64 c] ++ X).take (l.length + 1) = encs (Value.int .i64) l ++ [Value.int .i64 c] := fun X => by
            rw [List.take_append_of_le_length (by simp [encs]), List.take_of_length_le (by simp [encs])]
          rw [ht, hA]
          have hB : (encs (Value.int .i64) l).take l.length = encs (Value.int .i64) l := List.take_of_length_le (by simp [encs])
          have hC : (encs (Value.int .i64) l).drop l.length = [] := List.drop_of_length_le (by simp [encs])
          rw [hB, hC]
        · refine (fr_setCells g _ _ _).mono (fun k _ h => ?_)
          rw [show k = g from h]; rfl
    · obtain rfl : cap = l.length := by omega
      have hgc := grownCap_ge w (l.length + 1) l.length 3
      have hgm := grownCap_le_maxLen w (l.length + 1) l.length 3 (hml _ (by omega))
      rcases Nat.lt_or_ge r l.length with hrl | hrl
      · refine (Any2.slices_Insert_int_grow Tryd.laysNm221 g 0 l.length l.length r vb 0 1 1 (l.map (Value.int .i64)) [.int .i64 c] w hrl (by omega) (Nat.le_refl _) (by omega) (by omega) (by simp) rfl hcu hc1 (one_cells l) h1v).mono ?_
        rintro e w' ⟨rfl, rfl⟩
        rw [show Tryd.laysNm221_ren.t 3 = 3 from rfl]
        have hb5 := blk_new w (.cells (((l.map (Value.int .i64)).take r).toArray ++ Builtin.zeroCells (Value.int .i64 0).cells (l.length + 1 - r) ++ Builtin.zeroCells (Value.int .i64 0).cells (grownCap w (l.length + 1) l.length 3 - (l.length + 1))) 3)
        have hsz5 : (((l.map (Value.int .i64)).take r).toArray ++ Builtin.zeroCells (Value.int .i64 0).cells (l.length + 1 - r) ++ Builtin.zeroCells (Value.int .i64 0).cells (grownCap w (l.length + 1) l.length 3 - (l.length + 1))).size = grownCap w (l.length + 1) l.length 3 := by
          rw [Array.size_append, Array.size_append, size_zeroCells, size_zeroCells]; simp [Value.cells]; omega
        have hz5 : (((l.map (Value.int .i64)).take r).toArray ++ Builtin.zeroCells (Value.int .i64 0).cells (l.length + 1 - r) ++ Builtin.zeroCells (Value.int .i64 0).cells (grownCap w (l.length + 1) l.length 3 - (l.length + 1))).toList = (encs (Value.int .i64) l).take r ++ ((Builtin.zeroCells (Value.int .i64 0).cells (l.length + 1 - r)).toList ++ (Builtin.zeroCells (Value.int .i64 0).cells (grownCap w (l.length + 1) l.length 3 - (l.length + 1))).toList) := by simp [encs]
        have hzl : l.length + 1 - r ≤ ((Builtin.zeroCells (Value.int .i64 0).cells (l.length + 1 - r)).toList ++ (Builtin.zeroCells (Value.int .i64 0).cells (grownCap w (l.length + 1) l.length 3 - (l.length + 1))).toList).length := by
          simp only [List.length_append, Array.length_toList, size_zeroCells]; simp [Value.cells]
        have hF0 : Nw w (w.alloc (.cells (((l.map (Value.int .i64)).take r).toArray ++ Builtin.zeroCells (Value.int .i64 0).cells (l.length + 1 - r) ++ Builtin.zeroCells (Value.int .i64 0).cells (grownCap w (l.length + 1) l.length 3 - (l.length + 1))) 3)) := (Fr.refl _ _).alloc _
        generalize ((Builtin.zeroCells (Value.int .i64 0).cells (l.length + 1 - r)).toList ++ (Builtin.zeroCells (Value.int .i64 0).cells (grownCap w (l.length + 1) l.length 3 - (l.length + 1))).toList) = Z at hz5 hzl
        generalize (((l.map (Value.int .i64)).take r).toArray ++ Builtin.zeroCells (Value.int .i64 0).cells (l.length + 1 - r) ++ Builtin.zeroCells (Value.int .i64 0).cells (grownCap w (l.length + 1) l.length 3 - (l.length + 1))) = C5 at *
        generalize w.alloc (.cells C5 3) = W5 at *
        generalize grownCap w (l.length + 1) l.length 3 = G at *
        obtain ⟨c3, h3, h4, h5⟩ := setCells_row [Value.int .i64 c] r W5.drew C5 hb5 (by simp; omega)
        obtain ⟨c4, h6, h7, h8⟩ := setCells_row ((l.map (Value.int .i64)).drop r) (r + 1) (W5.drew.setCells w.heap.size r [Value.int .i64 c]).drew c3 h3 (by simp; omega)
        refine ⟨_, rfl, Kd.R_of_own (xs := l.take r ++ c :: l.drop r) ⟨by rw [encs_length, Nat.mul_one], .inr ⟨w.heap.size, G, c4, by rw [hlen], hbase, h6, by omega, hgm, by omega, ?_⟩⟩ (fun _ _ => trivial), .inr ⟨_, rfl, Nat.le_refl _⟩, ?_⟩
        · rw [h8, h5, hz5, enc_ins, hlen, Nat.mul_one, List.length_singleton]
          exact take_grow (encs (Value.int .i64) l) _ l.length r Z (encs_length l) hrl hzl
        · exact ((hF0.mono (fun _ _ h => h.elim)).drew.trans_new (fr_setCells w.heap.size _ _ _) (Nat.le_refl _)).drew.trans_new (fr_setCells w.heap.size _ _ _) (Nat.le_refl _)
      · obtain rfl : r = l.length := by omega
        refine (Any2.slices_Insert_int_end_grow Tryd.laysNm221 (some ⟨g, 0, none⟩) l.length l.length vb 0 1 1 (l.map (Value.int .i64)) [.int .i64 c] w (by omega) (Nat.le_refl _) (by omega) (by omega) (by simp) rfl (fun h => by cases h) (fun a ha j u hj => by cases ha; rw [Addr.add_lit]; exact hcu j u hj) hc1 h1v).mono ?_
        rintro e w' ⟨rfl, rfl⟩
        rw [show Tryd.laysNm221_ren.t 3 = 3 from rfl]
        have hzz := size_zeroCells (Value.int .i64 0).cells (grownCap w (l.length + 1) l.length 3 - (l.length + 1))
        have hB : (encs (Value.int .i64) l).take l.length = encs (Value.int .i64) l := List.take_of_length_le (by simp [encs])
        have hC : (encs (Value.int .i64) l).drop l.length = [] := List.drop_of_length_le (by simp [encs])
        refine ⟨_, rfl, Kd.R_of_own (xs := l.take l.length ++ c :: l.drop l.length) ⟨by rw [encs_length, Nat.mul_one], .inr ⟨_, _, _, by rw [hlen]; rfl, ?_, blk_new _ _, by omega, hgm, ?_, ?_⟩⟩ (fun _ _ => trivial), .inr ⟨_, rfl, Nat.le_refl _⟩, ((Fr.refl _ w).drew).alloc _⟩
        · exact hbase
        · rw [Array.size_append, size_zeroCells]; simp [Value.cells]; omega
        · rw [hlen, enc_ins, hB, hC, Array.toList_append, List.take_append_of_le_length (by simp), List.take_of_length_le (by simp)]
          simp [encs]
end YtnhdcefoigmjpaaDoor
end Go.Proofs

/-
  A trie in memory: which node lies where. Plain facts; no program here.
-/
namespace Go.Proofs.YtnhdcefoigmjpaaDoor
open Go.RowKit Go.Proofs.YtnhdcefoigmjpaaDoorW.PrintWords Go.Proofs.YtnhdcefoigmjpaaDoorW.PrintMore
set_option linter.unusedVariables false
set_option linter.unusedSimpArgs false

/-- x is the node of the beginning p at level i of the keys l. -/
structure NdOk (W : World) (fv : Value) (ad : Ad) (l : List Nat) (i p : Nat) (x : Nd) : Prop where
  b : x.b = bitsC l i p
  n : x.n = (cls l i p).length
  lo : x.lo = (cls l i p).headD 0
  hi : x.hi = (cls l i p).getLastD 0
  kids : Kd.R (Kd.int .i64) 3 W 0 (fun _ => True) (.slice x.ka x.kn x.kc) (if i < 10 then kidC ad l i p else [])
  apart : ∀ q, (Value.slice x.ka x.kn x.kc).ownBlock = some q → fv.ownBlock ≠ some q

theorem NdOk.kept {W W1 : World} {S : Nat → Prop} {fv fv' : Value} {ad : Ad} {l : List Nat} {i p : Nat} {x : Nd} (h : NdOk W fv ad l i p x) (hf : Fr S W W1) (hS : ∀ q, (Value.slice x.ka x.kn x.kc).ownBlock = some q → ¬ S q) (hv : Ext W.heap.size fv fv') : NdOk W1 fv' ad l i p x :=
  ⟨h.b, h.n, h.lo, h.hi, R_fr h.kids hf hS, fun q hq e => by
    rcases hv q e with h1 | h1
    · exact h.apart q hq h1
    · obtain ⟨_, hc⟩ := own_blk (Kd.own_of_R h.kids) q hq
      exact absurd (blk_lt hc) (by omega)⟩
theorem kidC_congr (ad ad' : Ad) (l l' : List Nat) (i p : Nat) (hi : i ≤ 10) (hc : cls l' i p = cls l i p) (h : ∀ x, x ∈ l → pre i x = p → ad' (i + 1) (pre (i + 1) x) = ad (i + 1) (pre (i + 1) x)) : kidC ad' l' i p = kidC ad l i p := by
  have hb : bitsC l' i p = bitsC l i p := by simp [bitsC, hc]
  unfold kidC
  rw [hb]
  apply List.map_congr_left
  intro d hd
  obtain ⟨x, hx, e⟩ := (mem_digits l i p d).1 hd
  obtain ⟨hx1, hx2⟩ := (mem_cls l i p x).1 hx
  have : p * 64 + d.toNat = pre (i + 1) x := by rw [pre_succ i x hi, hx2, ← e]; simp
  rw [this, h x hx1 hx2]
theorem NdOk.congr {W : World} {fv : Value} {ad ad' : Ad} {l l' : List Nat} {i p : Nat} {x : Nd} (h : NdOk W fv ad l i p x) (hi : i ≤ 10) (hc : cls l' i p = cls l i p)
    (hag : i < 10 → ∀ y, y ∈ l → pre i y = p → ad' (i + 1) (pre (i + 1) y) = ad (i + 1) (pre (i + 1) y)) : NdOk W fv ad' l' i p x := by
  have hb : bitsC l' i p = bitsC l i p := by simp [bitsC, hc]
  refine ⟨by rw [hb]; exact h.b, by rw [hc]; exact h.n, by rw [hc]; exact h.lo, by rw [hc]; exact h.hi, ?_, h.apart⟩
  have e : (if i < 10 then kidC ad' l' i p else []) = (if i < 10 then kidC ad l i p else []) := by
    split
    · rename_i h10
      exact kidC_congr ad ad' l l' i p hi hc (hag h10)
    · rfl
  rw [e]; exact h.kids

/-- Each beginning at each level has its own node; at level i: of the keys L i. -/
structure NI (W : World) (fv : Value) (ad : Ad) (L : Nat → List Nat) (rows : List (Option Nd)) : Prop where
  ok : ∀ i, i ≤ 10 → ∀ k, k ∈ L i → ∃ x, rows[ad i (pre i k)]? = some (some x) ∧ NdOk W fv ad (L i) i (pre i k) x
  inj : ∀ i j, i ≤ 10 → j ≤ 10 → ∀ x, x ∈ L i → ∀ y, y ∈ L j → ad i (pre i x) = ad j (pre j y) → i = j ∧ pre i x = pre j y
/-- Blocks that a node's kids lie in. -/
def KidB (W : World) (fv : Value) (q : Nat) : Prop := fv.ownBlock ≠ some q ∧ ∃ cur, W.heap[q]? = some (.cells cur 3 (0, 0))
theorem NdOk.kidB {W : World} {fv : Value} {ad : Ad} {l : List Nat} {i p : Nat} {x : Nd} (h : NdOk W fv ad l i p x) {q : Nat} (hq : (Value.slice x.ka x.kn x.kc).ownBlock = some q) : KidB W fv q :=
  ⟨h.apart q hq, own_blk (Kd.own_of_R h.kids) q hq⟩
theorem NI.kept {W W1 : World} {S : Nat → Prop} {fv fv' : Value} {ad : Ad} {L : Nat → List Nat} {rows : List (Option Nd)} (h : NI W fv ad L rows) (hf : Fr S W W1) (hS : ∀ q, KidB W fv q → ¬ S q) (hv : Ext W.heap.size fv fv') : NI W1 fv' ad L rows :=
  ⟨fun i hi k hk => by
    obtain ⟨x, h1, h2⟩ := h.ok i hi k hk
    exact ⟨x, h1, h2.kept hf (fun q hq => hS q (h2.kidB hq)) hv⟩, h.inj⟩
/-- What a level's node on the way of k is set to (the rest of the level is as it was). -/
theorem NI.put {W W1 : World} {S : Nat → Prop} {fv fv' : Value} {ad ad' : Ad} {L : Nat → List Nat} {rows rows' : List (Option Nd)} (h : NI W fv ad L rows) (i0 : Nat) (hi0 : i0 ≤ 10) (k a : Nat) (l' : List Nat) (x : Nd)
    (hk : k ∈ l') (hl : ∀ y, y ∈ l' → pre i0 y ≠ pre i0 k → y ∈ L i0 ∧ cls l' i0 (pre i0 y) = cls (L i0) i0 (pre i0 y))
    (hup : ∀ i, i + 1 = i0 → ∀ y, y ∈ L i → y ∈ L i0)
    (had : ∀ i p, ad' i p = if i = i0 ∧ p = pre i0 k then a else ad i p)
    (hold : (∃ y, y ∈ L i0 ∧ pre i0 y = pre i0 k) → a = ad i0 (pre i0 k))
    (hnew : ∀ i, i ≤ 10 → ∀ y, y ∈ L i → ad i (pre i y) = a → i = i0 ∧ pre i y = pre i0 k)
    (hrx : rows'[a]? = some (some x)) (hro : ∀ b y, b ≠ a → rows[b]? = some (some y) → rows'[b]? = some (some y))
    (hf : Fr S W W1) (hS : ∀ q, KidB W fv q → ¬ S q) (hv : Ext W.heap.size fv fv')
    (hx : NdOk W1 fv' ad' l' i0 (pre i0 k) x) : NI W1 fv' ad' (fun i => if i = i0 then l' else L i) rows' := by
  have hag : ∀ i, i ≤ 10 → ∀ y, y ∈ L i → ad' i (pre i y) = ad i (pre i y) := by
    intro i hi y hy
    rw [had]
    split
    · rename_i e
      obtain ⟨rfl, e2⟩ := e
      rw [e2, hold ⟨y, hy, e2⟩]
    · rfl
  have hself : ad' i0 (pre i0 k) = a := by rw [had, if_pos ⟨rfl, rfl⟩]
  refine ⟨fun i hi z hz => ?_, fun i j hi hj y hy z hz e => ?_⟩
  · by_cases e : i = i0
    · subst e
      simp only [if_true] at hz ⊢
      by_cases e2 : pre i z = pre i k
      · rw [e2, hself]; exact ⟨x, hrx, hx⟩
      · obtain ⟨h1, h2⟩ := hl z hz e2
        obtain ⟨y, h3, h4⟩ := h.ok i hi z h1
        refine ⟨y, ?_, ?_⟩
        · rw [hag i hi z h1]
          exact hro _ _ (fun e3 => e2 ((hnew i hi z h1 e3).2)) h3
        · refine (h4.kept hf (fun q hq => hS q (h4.kidB hq)) hv).congr hi h2 (fun _ y hy _ => ?_)
          rw [had, if_neg (by omega)]
    · simp only [if_neg e] at hz ⊢
      obtain ⟨y, h3, h4⟩ := h.ok i hi z hz
      refine ⟨y, ?_, ?_⟩
      · rw [hag i hi z hz]
        exact hro _ _ (fun e3 => e ((hnew i hi z hz e3).1)) h3
      · refine (h4.kept hf (fun q hq => hS q (h4.kidB hq)) hv).congr hi rfl (fun h10 y hy _ => ?_)
        by_cases e4 : i + 1 = i0
        · have := hup i e4 y hy
          rw [← e4] at this
          exact hag (i + 1) (by omega) y this
        · rw [had, if_neg (by omega)]
  · have key : ∀ i, i ≤ 10 → ∀ y, y ∈ (if i = i0 then l' else L i) → (i = i0 ∧ pre i y = pre i0 k ∧ ad' i (pre i y) = a) ∨ (y ∈ L i ∧ ad' i (pre i y) = ad i (pre i y) ∧ ¬ (i = i0 ∧ pre i y = pre i0 k)) := by
      intro i hi y hy
      by_cases e : i = i0
      · subst e
        simp only [if_true] at hy
        by_cases e2 : pre i y = pre i k
        · exact .inl ⟨rfl, e2, by rw [e2, hself]⟩
        · obtain ⟨h1, _⟩ := hl y hy e2
          exact .inr ⟨h1, hag i hi y h1, fun h => e2 h.2⟩
      · simp only [if_neg e] at hy
        exact .inr ⟨hy, hag i hi y hy, fun h => e h.1⟩
    rcases key i hi y hy with ⟨rfl, e1, e2⟩ | ⟨e1, e2, e3⟩ <;> rcases key j hj z hz with ⟨rfl, f1, f2⟩ | ⟨f1, f2, f3⟩
    · exact ⟨rfl, by rw [e1, f1]⟩
    · rw [e2, f2] at e
      exact absurd (hnew j hj z f1 e.symm) f3
    · rw [e2, f2] at e
      exact absurd (hnew i hi y e1 e) e3
    · rw [e2, f2] at e
      exact h.inj i j hi hj y e1 z f1 e
/-- A node that goes: the rest of the level is as it was. -/
theorem NI.drop {W W1 : World} {S : Nat → Prop} {fv fv' : Value} {ad : Ad} {L : Nat → List Nat} {rows rows' : List (Option Nd)} (h : NI W fv ad L rows) (i0 : Nat) (hi0 : i0 ≤ 10) (k : Nat) (l' : List Nat)
    (hk : k ∈ L i0) (hl : ∀ y, y ∈ l' → pre i0 y ≠ pre i0 k ∧ y ∈ L i0 ∧ cls l' i0 (pre i0 y) = cls (L i0) i0 (pre i0 y))
    (hro : ∀ b y, b ≠ ad i0 (pre i0 k) → rows[b]? = some (some y) → rows'[b]? = some (some y))
    (hne : ∀ i, i ≤ 10 → i ≠ i0 → ∀ y, y ∈ L i → ad i (pre i y) ≠ ad i0 (pre i0 k))
    (hf : Fr S W W1) (hS : ∀ q, KidB W fv q → ¬ S q) (hv : Ext W.heap.size fv fv') : NI W1 fv' ad (fun i => if i = i0 then l' else L i) rows' := by
  have hsub : ∀ i y, y ∈ (if i = i0 then l' else L i) → y ∈ L i := by
    intro i y hy
    by_cases e : i = i0
    · subst e; simp only [if_true] at hy; exact (hl y hy).2.1
    · simpa only [if_neg e] using hy
  refine ⟨fun i hi z hz => ?_, fun i j hi hj y hy z hz e => h.inj i j hi hj y (hsub i y hy) z (hsub j z hz) e⟩
  by_cases e : i = i0
  · subst e
    simp only [if_true] at hz ⊢
    obtain ⟨h0, h1, h2⟩ := hl z hz
    obtain ⟨y, h3, h4⟩ := h.ok i hi z h1
    refine ⟨y, hro _ _ (fun e3 => h0 (h.inj i i hi hi z h1 k hk e3).2) h3, ?_⟩
    exact (h4.kept hf (fun q hq => hS q (h4.kidB hq)) hv).congr hi h2 (fun _ _ _ _ => rfl)
  · simp only [if_neg e] at hz ⊢
    obtain ⟨y, h3, h4⟩ := h.ok i hi z hz
    exact ⟨y, hro _ _ (hne i hi e z hz) h3, (h4.kept hf (fun q hq => hS q (h4.kidB hq)) hv)⟩

/-- Block t is a trie of these keys; its pool's block, its meter's. -/
structure TI (W : World) (t m p : Nat) (l : List Nat) (lim : Nat) (ad : Ad) (rows : List (Option Nd)) (free : List Nat) (cv fv : Value) (root : Nat) : Prop where
  blk : W.heap[t]? = some (.cells #[.pointer (some ⟨m, 0, none⟩), .pointer (some ⟨p, 0, none⟩), .int .i64 root, .int .i64 l.length] 64 (0, 0))
  pl : Pl W p m rows free lim cv fv
  ni : NI W fv ad (fun _ => l) rows
  live : liveN rows = used l
  up : Up l
  bd : ∀ x, x ∈ l → x < 18446744073709551616
  len : l.length ≤ 1000000
  root : l ≠ [] → root = ad 0 0
section
variable {W W1 : World} {t m p lim root : Nat} {l : List Nat} {ad : Ad} {rows : List (Option Nd)} {free : List Nat} {cv fv : Value} {S : Nat → Prop} {tk : Int}
theorem TI.fr (h : TI W t m p l lim ad rows free cv fv root) (hf : Fr S W W1) (ht : ¬ S t) (hp : ¬ S p) (hc : ∀ q, cv.ownBlock = some q → ¬ S q) (hv : ∀ q, fv.ownBlock = some q → ¬ S q) (hk : ∀ q, KidB W fv q → ¬ S q) : TI W1 t m p l lim ad rows free cv fv root :=
  ⟨hf.blk h.blk ht, h.pl.fr hf hp hc hv, h.ni.kept hf hk (Ext.refl _ _), h.live, h.up, h.bd, h.len, h.root⟩
theorem TI.nw (h : TI W t m p l lim ad rows free cv fv root) (hf : Nw W W1) : TI W1 t m p l lim ad rows free cv fv root :=
  h.fr hf (fun h => h) (fun h => h) (fun _ _ h => h) (fun _ _ h => h) (fun _ _ h => h)
theorem TI.meter (h : TI W t m p l lim ad rows free cv fv root) (hm : MT W m tk) (hf : Fr (One m) W W1) : TI W1 t m p l lim ad rows free cv fv root := by
  obtain ⟨_, _, _, _, hb⟩ := hm
  refine h.fr hf (typ_ne h.blk hb (by decide)) (typ_ne h.pl.blk hb (by decide)) (fun q hq => ?_) (fun q hq => ?_) (fun q hq => ?_)
  · obtain ⟨_, hc⟩ := own_blk h.pl.own q hq
    exact typ_ne hc hb (by decide)
  · obtain ⟨_, hc⟩ := own_blk (Kd.own_of_R h.pl.fre) q hq
    exact typ_ne hc hb (by decide)
  · obtain ⟨_, _, hc⟩ := hq
    exact typ_ne hc hb (by decide)
theorem TI.at (h : TI W t m p l lim ad rows free cv fv root) {i k : Nat} (hi : i ≤ 10) (hk : k ∈ l) : ∃ x, rows[ad i (pre i k)]? = some (some x) ∧ NdOk W fv ad l i (pre i k) x := h.ni.ok i hi k hk
theorem TI.lt (h : TI W t m p l lim ad rows free cv fv root) : t < W.heap.size := blk_lt h.blk
end
end Go.Proofs.YtnhdcefoigmjpaaDoor

/-
  The contracts of a trie's small functions.
-/
namespace Go.Proofs.YtnhdcefoigmjpaaDoor
open Go.RowKit Go.Proofs.YtnhdcefoigmjpaaDoorW.PrintWords Go.Proofs.YtnhdcefoigmjpaaDoorW.PrintMore
attribute [local go_sem] max2_int min2_int max_two min_two
set_option linter.unusedVariables false
set_option linter.unusedSimpArgs false

theorem blk_put5 {W : World} {b : Nat} {a0 a1 a2 a3 a4 : Value} {T : TypeId} (h : W.heap[b]? = some (.cells #[a0, a1, a2, a3, a4] T (0, 0))) (x : Nd) :
    (((((W.setCell ⟨b, 0, none⟩ (.int .u64 x.b)).setCell ⟨b, 1, none⟩ (.slice x.ka x.kn x.kc)).setCell ⟨b, 2, none⟩ (.int .i64 x.n)).setCell ⟨b, 3, none⟩ (.int .u64 x.lo)).setCell ⟨b, 4, none⟩ (.int .u64 x.hi)).heap[b]? = some (.cells #[.int .u64 x.b, .slice x.ka x.kn x.kc, .int .i64 x.n, .int .u64 x.lo, .int .u64 x.hi] T (0, 0)) :=
  blk_set (blk_set (blk_set (blk_set (blk_set h 0 (.int .u64 x.b)) 1 (.slice x.ka x.kn x.kc)) 2 (.int .i64 x.n)) 3 (.int .u64 x.lo)) 4 (.int .u64 x.hi)
theorem fr_put5 (W : World) (b : Nat) (x : Nd) :
    Fr (One b) W (((((W.setCell ⟨b, 0, none⟩ (.int .u64 x.b)).setCell ⟨b, 1, none⟩ (.slice x.ka x.kn x.kc)).setCell ⟨b, 2, none⟩ (.int .i64 x.n)).setCell ⟨b, 3, none⟩ (.int .u64 x.lo)).setCell ⟨b, 4, none⟩ (.int .u64 x.hi)) :=
  (((((Fr.refl _ _).set (One.self b) _ _).set (One.self b) _ _).set (One.self b) _ _).set (One.self b) _ _).set (One.self b) _ _
/-- What a node of a trie that has the key's next beginning reads. -/
theorem NdOk.kid {W : World} {fv : Value} {ad : Ad} {l : List Nat} {i k : Nat} {x : Nd} (h : NdOk W fv ad l i (pre i k) x) (hi : i < 10) (hz : ∃ z, z ∈ l ∧ pre (i + 1) z = pre (i + 1) k) :
    ∃ q, x.ka = some ⟨q, 0, none⟩ ∧ rankL (listW x.b) (dig i k : Nat) < x.kn ∧ x.kn ≤ x.kc ∧ x.kn ≤ 64 ∧ q < W.heap.size ∧ W.cell? ⟨q, rankL (listW x.b) (dig i k : Nat), none⟩ = some (.int .i64 (ad (i + 1) (pre (i + 1) k) : Nat)) := by
  have hk := h.kids
  rw [if_pos hi] at hk
  obtain ⟨h1, h2⟩ := kid_at ad l i k (by omega) hz
  rw [← h.b] at h1 h2
  have ho := Kd.own_of_R hk
  have hc64 : (kidC ad l i (pre i k)).length ≤ 64 := by rw [kid_len]; exact cntN_le _
  rcases ho.2 with ⟨_, e⟩ | ⟨g, cap, cur, e, hg, hb, h3, h4, h5, h6⟩
  · omega
  · simp only [Value.slice.injEq] at e
    obtain ⟨e1, e2, e3⟩ := e
    refine ⟨g, e1, by rw [e2]; exact h1, by rw [e2, e3]; exact h3, by rw [e2]; exact hc64, blk_lt hb, ?_⟩
    rw [blk_cell hb]
    rw [Nat.mul_one] at h6
    have h7 : (cur.toList.take (kidC ad l i (pre i k)).length)[rankL (listW x.b) (dig i k : Nat)]? = (encs (Value.int .i64) (kidC ad l i (pre i k)))[rankL (listW x.b) (dig i k : Nat)]? := by rw [h6]
    rw [List.getElem?_take, if_pos h1] at h7
    rw [← Array.getElem?_toList, h7]
    simp only [encs, List.getElem?_map, h2, Option.map_some]
theorem get_digit {W : World} {fv : Value} {ad : Ad} {l : List Nat} {i k : Nat} {x : Nd} (h : NdOk W fv ad l i (pre i k) x) (hi : i ≤ 10) : getN x.b (dig i k : Nat) = decide (∃ z, z ∈ l ∧ pre (i + 1) z = pre (i + 1) k) := by
  have hd := dig_lt i k
  unfold getN hasL
  apply decide_eq_decide.2
  rw [h.b, mem_digits]
  constructor
  · rintro ⟨z, hz, e⟩
    obtain ⟨h1, h2⟩ := (mem_cls l i _ z).1 hz
    have e : dig i z = dig i k := by omega
    exact ⟨z, h1, by rw [pre_succ i z hi, pre_succ i k hi, h2, e]⟩
  · rintro ⟨z, hz, e⟩
    obtain ⟨e1, e2⟩ := pre_up hi e
    exact ⟨z, (mem_cls l i _ z).2 ⟨hz, e1⟩, by rw [e2]⟩
theorem NdOk.bl {W : World} {fv : Value} {ad : Ad} {l : List Nat} {i p : Nat} {x : Nd} (h : NdOk W fv ad l i p x) : x.b < 18446744073709551616 := by rw [h.b]; exact bits_lt l i p

set_option maxHeartbeats 1000000 in
theorem tat_calls (k i : Nat) (w : World) (hk : k < 18446744073709551616) (hi : i ≤ 10) :
    Calls Tryd.prog 42 #[.int .u64 k, .int .i64 i] w fun e w' => e = .returned (.int .i64 (dig i k)) ∧ w = w' := by
  have hd := dig_lt i k
  go_enter Tryd.func42, Tryd.ntmps42
  go_wp2
  go_ret
  refine ⟨ret_int ?_, rfl⟩
  have e1 : (k : Int) / 2 ^ (60 - 6 * i) = ((k / 2 ^ (60 - 6 * i) : Nat) : Int) := by push_cast; rfl
  have e2 : k / 2 ^ (60 - 6 * i) ≤ k := Nat.div_le_self _ _
  show wrap64 (bits .and .u64 ((k : Int) / 2 ^ (60 - 6 * i)) 63) = _
  rw [e1, show (63 : Int) = ((63 : Nat) : Int) from rfl, bits_and_u64_nat _ _ (by omega) (by omega), show (63 : Nat) = 2 ^ 6 - 1 from rfl, Nat.and_two_pow_sub_one_eq_mod]
  show wrap64 ((dig i k : Nat) : Int) = _
  unfold wrap64; omega
theorem tstart_calls (t m p lim root : Nat) (l : List Nat) (ad : Ad) (rows : List (Option Nd)) (free : List Nat) (cv fv : Value) (tk : Int) (w : World) (h : TI w t m p l lim ad rows free cv fv root) (hm : MT w m tk) :
    Calls Tryd.prog 40 #[.pointer (some ⟨t, 0, none⟩)] w fun e w' => e = .returned (.bool (decide (l ≠ []))) ∧ TI w' t m p l lim ad rows free cv fv root ∧ MT w' m 0 ∧ Fr (One m) w w' := by
  have H := Lib.hid h
  have HM := Lib.hid hm
  have c0 : w.cell? ⟨t, 0, none⟩ = some (.pointer (some ⟨m, 0, none⟩)) := blk_cell h.blk 0
  have ht := h.lt
  have HL : Hid (decide (0 < l.length) = decide (l ≠ [])) := Lib.hid (by cases l <;> simp)
  clear h hm
  go_enter Tryd.func40, Tryd.ntmps40
  go_wp2_with (first | (go_at_call 72; refine (mt_start m tk _ HM.out).mono ?_; rintro e w1 ⟨rfl, hm1, hf1⟩; have H1 := Lib.hid (H.out.meter HM.out hf1); have HM1 := Lib.hid hm1; have HF1 := Lib.hid hf1; have c3 : w1.cell? ⟨t, 3, none⟩ = some (.int .i64 l.length) := blk_cell H1.out.blk 3; clear hm1 hf1))
  go_ret
  exact ⟨ret_bool (HL.out), H1.out, HM1.out, HF1.out⟩
set_option maxHeartbeats 1000000 in
theorem tsee_calls (t m p lim root : Nat) (l : List Nat) (ad : Ad) (rows : List (Option Nd)) (free : List Nat) (cv fv : Value) (w : World) (hb : w.cell? ⟨t, 1, none⟩ = some (.pointer (some ⟨p, 0, none⟩))) (h : Pl w p m rows free lim cv fv) (j : Nat) (x : Nd) (hx : rows[j]? = some (some x)) :
    Calls Tryd.prog 48 #[.pointer (some ⟨t, 0, none⟩), .int .i64 j] w fun e w' => e = .returned (Value.agg #[Value.int IntKind.u64 (Nd.b x), Value.slice (Nd.ka x) (Nd.kn x) (Nd.kc x), Value.int IntKind.i64 (Nd.n x), Value.int IntKind.u64 (Nd.lo x), Value.int IntKind.u64 (Nd.hi x)]) ∧ Nw w w' := by
  have H := Lib.hid h
  have HX := Lib.hid hx
  have ht := World.block_lt_of_cell? w _ hb
  have ht : t < w.heap.size := ht
  clear h hx
  go_enter Tryd.func48, Tryd.ntmps48
  go_wp2_with (first | (go_at_call 73; refine (pl_peek p m rows free lim cv fv _ (H.out.nw ((Fr.refl _ _).alloc _)) j x HX.out).mono ?_; rintro e w1 ⟨rfl, hf⟩; have hs1 : w.heap.size < w1.heap.size := Nat.lt_of_lt_of_le (by simp) hf.size; have hb4 := hf.blk (blk_new _ _) (fun h => h); obtain ⟨r0, r1, r2, r3, r4⟩ := nd_cells hb4; have g0 := blk_frozen hb4 0; have g1 := blk_frozen hb4 1; have g2 := blk_frozen hb4 2; have g3 := blk_frozen hb4 3; have g4 := blk_frozen hb4 4; have HB4 := Lib.hid hb4; have HF := Lib.hid (Fr.trans ((Fr.refl _ _).alloc _) hf); clear hf hb4))
  have hB := blk_alloc (blk_put5 HB4.out x) (.cells #[.int .u64 x.b, .slice x.ka x.kn x.kc, .int .i64 x.n, .int .u64 x.lo, .int .u64 x.hi] 73)
  have HF9 : Hid (Nw w (((((((w1.setCell ⟨w.heap.size, 0, none⟩ (.int .u64 x.b)).setCell ⟨w.heap.size, 1, none⟩ (.slice x.ka x.kn x.kc)).setCell ⟨w.heap.size, 2, none⟩ (.int .i64 x.n)).setCell ⟨w.heap.size, 3, none⟩ (.int .u64 x.lo)).setCell ⟨w.heap.size, 4, none⟩ (.int .u64 x.hi))).alloc (.cells #[.int .u64 x.b, .slice x.ka x.kn x.kc, .int .i64 x.n, .int .u64 x.lo, .int .u64 x.hi] 73))) := Lib.hid ((HF.out.trans_new (fr_put5 w1 w.heap.size x) (Nat.le_refl _)).alloc _)
  generalize (((((((w1.setCell ⟨w.heap.size, 0, none⟩ (.int .u64 x.b)).setCell ⟨w.heap.size, 1, none⟩ (.slice x.ka x.kn x.kc)).setCell ⟨w.heap.size, 2, none⟩ (.int .i64 x.n)).setCell ⟨w.heap.size, 3, none⟩ (.int .u64 x.lo)).setCell ⟨w.heap.size, 4, none⟩ (.int .u64 x.hi))).alloc (.cells #[.int .u64 x.b, .slice x.ka x.kn x.kc, .int .i64 x.n, .int .u64 x.lo, .int .u64 x.hi] 73)) = W9 at hB HF9 ⊢
  obtain ⟨s0, s1, s2, s3, s4⟩ := nd_cells hB
  refine bodyPost_ret (by simp [results, Tryd.results48, go_sem, s0, s1, s2, s3, s4]; try rfl) rfl ?_
  exact ⟨rfl, HF9.out⟩
set_option maxHeartbeats 1000000 in
theorem tkid_no (t m p lim root : Nat) (l : List Nat) (ad : Ad) (fv : Value) (w : World) (i k : Nat) (hi : i ≤ 10) (x : Nd) (hx : NdOk w fv ad l i (pre i k) x) (hz : ¬ ∃ z, z ∈ l ∧ pre (i + 1) z = pre (i + 1) k) :
    Calls Tryd.prog 44 #[.pointer (some ⟨t, 0, none⟩), (Value.agg #[Value.int IntKind.u64 (Nd.b x), Value.slice (Nd.ka x) (Nd.kn x) (Nd.kc x), Value.int IntKind.i64 (Nd.n x), Value.int IntKind.u64 (Nd.lo x), Value.int IntKind.u64 (Nd.hi x)]), .int .i64 (dig i k : Nat)] w fun e w' => e = .returned (.tuple #[.int .i64 0, .agg #[.int .u64 0, .slice none 0 0, .int .i64 0, .int .u64 0, .int .u64 0], .bool false]) ∧ Nw w w' := by
  have HG := Lib.hid (fun w' => get_calls x.b (dig i k : Nat) w' hx.bl)
  have HE : Hid (getN x.b (dig i k : Nat) = false) := Lib.hid (by rw [get_digit hx hi, decide_eq_false hz])
  clear hx hz
  go_enter Tryd.func44, Tryd.ntmps44
  go_wp2_with (first | (go_at_call 51; refine (HG.out _).mono ?_; rintro e w1 ⟨rfl, rfl⟩; rw [HE.out]))
  go_returns
  exact ⟨rfl, ((Fr.refl _ _).alloc _).alloc _⟩
end Go.Proofs.YtnhdcefoigmjpaaDoor

/-
  The contracts of a trie's small functions.
-/

namespace Go.Proofs.YtnhdcefoigmjpaaDoor
open Go.RowKit Go.Proofs.YtnhdcefoigmjpaaDoorW.PrintWords Go.Proofs.YtnhdcefoigmjpaaDoorW.PrintMore
attribute [local go_sem] max2_int min2_int max_two min_two
set_option linter.unusedVariables false
set_option linter.unusedSimpArgs false

theorem blk_new2 (W : World) (o o2 : Obj) : ((W.alloc o).alloc o2).heap[W.heap.size + 1]? = some o2 := by
  have h := blk_new (W.alloc o) o2
  rwa [show (W.alloc o).heap.size = W.heap.size + 1 by simp] at h
set_option maxRecDepth 100000 in
set_option maxHeartbeats 1000000 in
theorem tkid_yes (t m p lim root : Nat) (l : List Nat) (ad : Ad) (rows : List (Option Nd)) (free : List Nat) (cv fv : Value) (tk : Int) (w : World) (h : TI w t m p l lim ad rows free cv fv root) (hm : MT w m tk) (h1 : 0 ≤ tk) (h2 : tk ≤ 1000000)
    (i k : Nat) (hi : i < 10) (x y : Nd) (hx : NdOk w fv ad l i (pre i k) x) (hz : ∃ z, z ∈ l ∧ pre (i + 1) z = pre (i + 1) k) (hy : rows[ad (i + 1) (pre (i + 1) k)]? = some (some y)) :
    Calls Tryd.prog 44 #[.pointer (some ⟨t, 0, none⟩), (Value.agg #[Value.int IntKind.u64 (Nd.b x), Value.slice (Nd.ka x) (Nd.kn x) (Nd.kc x), Value.int IntKind.i64 (Nd.n x), Value.int IntKind.u64 (Nd.lo x), Value.int IntKind.u64 (Nd.hi x)]), .int .i64 (dig i k : Nat)] w fun e w' => e = .returned (.tuple #[.int .i64 (ad (i + 1) (pre (i + 1) k) : Nat), (Value.agg #[Value.int IntKind.u64 (Nd.b y), Value.slice (Nd.ka y) (Nd.kn y) (Nd.kc y), Value.int IntKind.i64 (Nd.n y), Value.int IntKind.u64 (Nd.lo y), Value.int IntKind.u64 (Nd.hi y)]), .bool true]) ∧ MT w' m (tk + 1) ∧ Fr (One m) w w' := by
  have HG := Lib.hid (fun w' => get_calls x.b (dig i k : Nat) w' hx.bl)
  have HK := Lib.hid (fun w' => brank_calls x.b (dig i k : Nat) w' hx.bl)
  have HE : Hid (getN x.b (dig i k : Nat) = true) := Lib.hid (by rw [get_digit hx (by omega), decide_eq_true hz])
  obtain ⟨q, e1, hr, hkc, hk64, hq, hc⟩ := hx.kid hi hz
  have H := Lib.hid h
  have HM := Lib.hid hm
  have HY := Lib.hid hy
  have ht := h.lt
  have hml := hm.mlt
  have hb1 : w.cell? ⟨t, 1, none⟩ = some (.pointer (some ⟨p, 0, none⟩)) := blk_cell h.blk 1
  obtain ⟨b, ka, kn, kc, n, lo, hi'⟩ := x
  simp only at e1 hr hkc hc hk64 HG HK HE
  subst e1
  obtain ⟨r, hre⟩ : ∃ r, r = rankL (listW b) (dig i k : Nat) := ⟨_, rfl⟩
  rw [← hre] at hr hc HK
  obtain ⟨D, hD⟩ : ∃ D, D = dig i k := ⟨_, rfl⟩
  rw [← hD] at HG HK HE ⊢
  obtain ⟨A, hA⟩ : ∃ A, A = ad (i + 1) (pre (i + 1) k) := ⟨_, rfl⟩
  rw [← hA] at hc HY ⊢
  clear h hm hx hy hre hD hA hz
  go_enter Tryd.func44, Tryd.ntmps44
  go_wp2_with (first | (go_at_call 51; refine (HG.out _).mono ?_; rintro e w1 ⟨rfl, rfl⟩; rw [HE.out]))
  refine wp_still 8 (by kernel_rfl) (by kernel_rfl) ?_
  simp only [List.take_succ_cons, List.take_zero, List.drop_succ_cons, List.drop_zero]
  repeat still_step
  still_call (Calls.mono (HK.out _) (fun _ _ h => ⟨h.1, h.2.symm⟩))
  repeat still_step
  refine wpStill_nil ?_
  go_wp2_with (first | (go_at_call 41; refine (pl_at p m rows free lim cv fv tk _ (H.out.pl.nw (((Fr.refl _ _).alloc _).alloc _).drew) (HM.out.fr (S := fun _ => False) (((Fr.refl _ _).alloc _).alloc _).drew (fun h => h)) h1 (by omega) A y HY.out).mono ?_; rintro e w3 ⟨rfl, hm3, hf3⟩; have hs3 : w.heap.size + 1 < w3.heap.size := Nat.lt_of_lt_of_le (by simp) hf3.size; have hb4 := hf3.blk (blk_drew (blk_new2 w _ _)) (by simp only [One]; omega); obtain ⟨r0, r1, r2, r3, r4⟩ := nd_cells hb4; have g0 := blk_frozen hb4 0; have g1 := blk_frozen hb4 1; have g2 := blk_frozen hb4 2; have g3 := blk_frozen hb4 3; have g4 := blk_frozen hb4 4; have HB4 := Lib.hid hb4; have HF := Lib.hid (Fr.trans ((((Fr.refl _ w).alloc _).alloc _).drew) hf3); have HM3 := Lib.hid hm3; clear hf3 hb4 hm3))
  go_region
  go_wp2
  have hB := blk_alloc (blk_put5 HB4.out y) (.cells #[.int .u64 y.b, .slice y.ka y.kn y.kc, .int .i64 y.n, .int .u64 y.lo, .int .u64 y.hi] 73)
  have HF9 : Hid (Fr (One m) w (((((((w3.setCell ⟨w.heap.size + 1, 0, none⟩ (.int .u64 y.b)).setCell ⟨w.heap.size + 1, 1, none⟩ (.slice y.ka y.kn y.kc)).setCell ⟨w.heap.size + 1, 2, none⟩ (.int .i64 y.n)).setCell ⟨w.heap.size + 1, 3, none⟩ (.int .u64 y.lo)).setCell ⟨w.heap.size + 1, 4, none⟩ (.int .u64 y.hi)).alloc (.cells #[.int .u64 y.b, .slice y.ka y.kn y.kc, .int .i64 y.n, .int .u64 y.lo, .int .u64 y.hi] 73)).drew)) := Lib.hid (((HF.out.trans_new (fr_put5 w3 (w.heap.size + 1) y) (Nat.le_succ _)).alloc _).drew)
  have HM9 : Hid (MT (((((((w3.setCell ⟨w.heap.size + 1, 0, none⟩ (.int .u64 y.b)).setCell ⟨w.heap.size + 1, 1, none⟩ (.slice y.ka y.kn y.kc)).setCell ⟨w.heap.size + 1, 2, none⟩ (.int .i64 y.n)).setCell ⟨w.heap.size + 1, 3, none⟩ (.int .u64 y.lo)).setCell ⟨w.heap.size + 1, 4, none⟩ (.int .u64 y.hi)).alloc (.cells #[.int .u64 y.b, .slice y.ka y.kn y.kc, .int .i64 y.n, .int .u64 y.lo, .int .u64 y.hi] 73)).drew) m (tk + 1)) := Lib.hid (HM3.out.fr (((fr_put5 w3 (w.heap.size + 1) y).alloc _).drew) (by simp only [One]; omega))
  generalize ((((((w3.setCell ⟨w.heap.size + 1, 0, none⟩ (.int .u64 y.b)).setCell ⟨w.heap.size + 1, 1, none⟩ (.slice y.ka y.kn y.kc)).setCell ⟨w.heap.size + 1, 2, none⟩ (.int .i64 y.n)).setCell ⟨w.heap.size + 1, 3, none⟩ (.int .u64 y.lo)).setCell ⟨w.heap.size + 1, 4, none⟩ (.int .u64 y.hi)).alloc (.cells #[.int .u64 y.b, .slice y.ka y.kn y.kc, .int .i64 y.n, .int .u64 y.lo, .int .u64 y.hi] 73)) = W9 at hB HF9 HM9 ⊢
  obtain ⟨s0, s1, s2, s3, s4⟩ := nd_cells (blk_drew hB)
  refine bodyPost_ret (by simp [results, Tryd.results44, go_sem, s0, s1, s2, s3, s4]; try rfl) rfl ?_
  exact ⟨rfl, HM9.out, HF9.out⟩
end Go.Proofs.YtnhdcefoigmjpaaDoor

