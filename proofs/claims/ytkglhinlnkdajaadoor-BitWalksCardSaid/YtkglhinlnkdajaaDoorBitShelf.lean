/-
  slices.Clone and slices.Reverse at []int: laid off the kit's shelf, in plain words; then over rows that a call owns.
-/
import Derived.Shelf.Slices.Reverse
import Derived.Shelf.Slices.Clone
import Derived.Shelf.Slices.Cells
import Derived.Ground.Names2Prog
import Derived.Lib.EndianMore
import Derived.Test.YtkglhinlnkdajaaDoorProg
import Derived.Test.YtkglhinlnkdajaaDoorFr
import Derived.Test.YtkglhinlnkdajaaDoorBitLaw
namespace Go.Proofs
open Go.Shelf
def Tryd.lays112_ren : Go.Shelf.Ren := ⟨fun | 112 => 38 | n => n, fun | 28 => 23 | 3 => 3 | 4 => 4 | 0 => 0 | n => n, fun | n => n⟩
theorem Tryd.lays112 : Go.Proofs.Lays.n112 Tryd.prog Tryd.lays112_ren := {
  mixed := by kernel_rfl
  f112 := Tryd.func38.trans (congrArg some (by kernel_rfl))
  t0 := Tryd.underlying0
  a0 := Tryd.isAgg0
  z0 := Tryd.sizeOf0
  v0 := Tryd.zeroValue0
  t3 := Tryd.underlying3
  a3 := Tryd.isAgg3
  z3 := Tryd.sizeOf3
  v3 := Tryd.zeroValue3
  t4 := Tryd.underlying4
  a4 := Tryd.isAgg4
  z4 := Tryd.sizeOf4
  v4 := Tryd.zeroValue4
  t28 := Tryd.underlying23
  a28 := Tryd.isAgg23
  z28 := Tryd.sizeOf23
  v28 := Tryd.zeroValue23 }
open Go.RowKit Go.Lib Go.Sort in
theorem Tryd.slices_Reverse_int_arr (blk off cap : Nat) (d : Array Int) (w : World) (hH : Holds encI w blk off d) (hsz : d.size ≤ 9223372036854775807) :
    Calls Tryd.prog 38 #[.slice (some ⟨blk, off, none⟩) d.size cap] w fun e w' => e = .returned (.tuple #[]) ∧ ∃ n, w' = putRow encI (Sort.ahead w n) blk off d.reverse := Any.slices_Reverse_int_arr Tryd.lays112 blk off cap d w hH hsz
open Go.RowKit Go.Lib Go.Sort in
theorem Tryd.slices_Reverse_int (blk off cap : Nat) (zs : List Int) (w : World) (hH : Holds (Value.int .i64) w blk off zs.toArray) (hsz : zs.length ≤ 9223372036854775807) :
    Calls Tryd.prog 38 #[.slice (some ⟨blk, off, none⟩) zs.length cap] w fun e w' => e = .returned (.tuple #[]) ∧ ∃ n, w' = putRow (Value.int .i64) (Sort.ahead w n) blk off zs.reverse.toArray := Any.slices_Reverse_int Tryd.lays112 blk off cap zs w hH hsz
open Go.RowKit Go.Lib Go.Sort in
theorem Tryd.slices_Reverse_int_empty (a : Option Addr) (cap : Nat) (w : World) :
    Calls Tryd.prog 38 #[.slice a 0 cap] w fun e w' => e = .returned (.tuple #[]) ∧ w' = w := Any.slices_Reverse_int_empty Tryd.lays112 a cap w
def Tryd.laysNm215_ren : Go.Shelf.Ren := ⟨fun | 15 => 37 | n => n, fun | 22 => 23 | 3 => 3 | 4 => 4 | n => n, fun | n => n⟩
theorem Tryd.laysNm215 : Go.Proofs.Lays2.n15 Tryd.prog Tryd.laysNm215_ren := {
  mixed := by kernel_rfl
  f15 := Tryd.func37.trans (congrArg some (by kernel_rfl))
  t3 := Tryd.underlying3
  a3 := Tryd.isAgg3
  z3 := Tryd.sizeOf3
  v3 := Tryd.zeroValue3
  t4 := Tryd.underlying4
  a4 := Tryd.isAgg4
  z4 := Tryd.sizeOf4
  v4 := Tryd.zeroValue4
  t22 := Tryd.underlying23
  a22 := Tryd.isAgg23
  z22 := Tryd.sizeOf23
  v22 := Tryd.zeroValue23
  i3 := by kernel_rfl }
open Go.RowKit Go.Lib in
theorem Tryd.slices_Clone_int (b off n c : Nat) (zs : List Int) (w : World) (hz : n ≤ zs.length) (hbig : n * 8 ≤ 140737488355328) (hc : ∀ j, j < zs.length → w.cell? ⟨b, off + j, none⟩ = some (.int .i64 (zs.getD j 0))) :
    Calls Tryd.prog 37 #[.slice (some ⟨b, off, none⟩) n c] w fun e w' => ∃ v', e = .returned v' ∧ w'.ownsRow w.heap.size 3 1 v' n ((zs.take n).map (Value.int .i64)) ∧ v' ≠ .slice none 0 0 ∧ Below w.heap.size w w' := Any.slices_Clone_int Tryd.laysNm215 b off n c zs w hz hbig hc
open Go.RowKit Go.Lib in
theorem Tryd.slices_Clone_int_nil (n c : Nat) (w : World) :
    Calls Tryd.prog 37 #[.slice none n c] w fun e w' => e = .returned (.slice none 0 0) ∧ w' = w := Any.slices_Clone_int_nil Tryd.laysNm215 n c w
open Go.RowKit Go.Lib in
theorem Tryd.slices_Clone_int_zero (a : Addr) (c : Nat) (w : World) :
    Calls Tryd.prog 37 #[.slice (some a) 0 c] w fun e w' => ∃ v', e = .returned v' ∧ w'.ownsRow w.heap.size 3 1 v' 0 [] ∧ v' ≠ .slice none 0 0 ∧ Below w.heap.size w w' := Any.slices_Clone_int_zero Tryd.laysNm215 a c w
open Go.RowKit Go.Lib Go.Sort in
theorem Tryd.slices_Reverse_int_cells (b off n c : Nat) (zs : List Int) (w : World) (hz : n ≤ zs.length) (hbig : n ≤ 9223372036854775807) (hc : ∀ j, j < zs.length → w.cell? ⟨b, off + j, none⟩ = some (.int .i64 (zs.getD j 0))) (hf : ∀ j, j < n → w.frozen? ⟨b, off + j, none⟩ = false) :
    Calls Tryd.prog 38 #[.slice (some ⟨b, off, none⟩) n c] w fun e w' => e = .returned (.tuple #[]) ∧ ∃ q, w' = (w.drewN q).setCells b off ((zs.take n).reverse.map (Value.int .i64)) := Any.slices_Reverse_int_cells Tryd.lays112 b off n c zs w hz hbig hc hf

namespace YtkglhinlnkdajaaDoor
open Go.RowKit Go.Proofs.YtkglhinlnkdajaaDoorW.PrintWords Go.Proofs.YtkglhinlnkdajaaDoorW.PrintMore
set_option linter.unusedVariables false
set_option linter.unusedSimpArgs false
theorem row_cell {cur : Array Value} {l : List Int} (h : cur.toList.take (l.length * 1) = l.map (Value.int .i64)) {j : Nat} (hj : j < l.length) : cur[j]? = some (.int .i64 (l.getD j 0)) := by
  have h1 : (cur.toList.take (l.length * 1))[j]? = (l.map (Value.int .i64))[j]? := by rw [h]
  rw [List.getElem?_take, if_pos (by omega), List.getElem?_map, List.getElem?_eq_getElem hj] at h1
  rw [← Array.getElem?_toList, h1, List.getD_eq_getElem?_getD, List.getElem?_eq_getElem hj]
  rfl
theorem clone_calls {base : Nat} {v : Value} {l : List Int} (w : World) (h : Kd.R (Kd.int .i64) 3 w base (fun _ => True) v l) (hn : l.length ≤ 1000000) :
    Calls Tryd.prog 37 #[v] w fun e w' => ∃ v', e = .returned v' ∧ Kd.R (Kd.int .i64) 3 w' w.heap.size (fun _ => True) v' l ∧ Below w.heap.size w w' := by
  obtain ⟨hl, hrow⟩ := Kd.own_of_R h
  rcases hrow with ⟨rfl, h0⟩ | ⟨g, cap, cur, rfl, hg, hb, hc1, hc2, hs, ht⟩
  · refine (Tryd.slices_Clone_int_nil 0 0 w).mono ?_
    rintro e w' ⟨rfl, rfl⟩
    obtain rfl : l = [] := List.length_eq_zero_iff.1 h0
    exact ⟨_, rfl, Kd.R_nil _ _ _ _ _, Below.refl _ _⟩
  · have ht' : cur.toList.take (l.length * 1) = l.map (Value.int .i64) := ht
    refine (Tryd.slices_Clone_int g 0 l.length cap l w (Nat.le_refl _) (by omega) (fun j hj => ?_)).mono ?_
    · rw [Nat.zero_add, blk_cell hb]; exact row_cell ht' hj
    · rintro e w' ⟨v', rfl, ho, _, hbl⟩
      rw [List.take_length] at ho
      exact ⟨v', rfl, Kd.R_of_own ho (fun _ _ => trivial), hbl⟩
theorem reverse_calls {base : Nat} {v : Value} {l : List Int} (w : World) (h : Kd.R (Kd.int .i64) 3 w base (fun _ => True) v l) (hn : l.length ≤ 1000000) :
    Calls Tryd.prog 38 #[v] w fun e w' => e = .returned (.tuple #[]) ∧ Kd.R (Kd.int .i64) 3 w' base (fun _ => True) v l.reverse ∧ Below base w w' := by
  obtain ⟨hl, hrow⟩ := Kd.own_of_R h
  rcases hrow with ⟨rfl, h0⟩ | ⟨g, cap, cur, rfl, hg, hb, hc1, hc2, hs, ht⟩
  · refine (Tryd.slices_Reverse_int_empty none 0 w).mono ?_
    rintro e w' ⟨rfl, rfl⟩
    obtain rfl : l = [] := List.length_eq_zero_iff.1 h0
    exact ⟨rfl, Kd.R_nil _ _ _ _ _, Below.refl _ _⟩
  · have ht' : cur.toList.take (l.length * 1) = l.map (Value.int .i64) := ht
    refine (Tryd.slices_Reverse_int_cells g 0 l.length cap l w (Nat.le_refl _) (by omega) (fun j hj => ?_) (fun j hj => blk_frozen hb _)).mono ?_
    · rw [Nat.zero_add, blk_cell hb]; exact row_cell ht' hj
    · rintro e w' ⟨rfl, q, rfl⟩
      rw [List.take_length]
      obtain ⟨cur', h3, h4, h5⟩ := setCells_row (l.reverse.map (Value.int .i64)) 0 (w.drewN q) cur hb (by simp; omega)
      refine ⟨rfl, Kd.R_of_own (xs := l.reverse) ⟨by simp [encs], .inr ⟨g, cap, cur', by simp, hg, h3, by simpa using hc1, hc2, by rw [h4]; exact hs, ?_⟩⟩ (fun _ _ => trivial), ?_⟩
      · rw [h5]
        show _ = l.reverse.map (Value.int .i64)
        rw [List.take_zero, List.nil_append, List.take_append_of_le_length (by simp), List.take_of_length_le (by simp)]
      · have h6 : Below base w (w.drewN q) := ⟨rfl, rfl, rfl, Nat.le_refl _, fun _ _ => rfl⟩
        exact h6.trans (Lib.below_setCells_w hg _ _ _)
end YtkglhinlnkdajaaDoor
end Go.Proofs
