/-
  Plain facts on worlds: 'Fr S W W1': from W to W1 only blocks with S have turned, new ones may have come. No program here.
-/
import Derived.WalkKit
import Derived.Handy
import Derived.Lib.Hide
import Derived.Deep.Draws
namespace Go.Proofs.YtnhdcefoigmjpaaDoor
open Go.RowKit

/-- Only blocks that S names may have turned; new blocks may have come. -/
structure Fr (S : Nat → Prop) (W W1 : World) : Prop where
  os : W1.os = W.os
  tape : W1.tape = W.tape
  output : W1.output = W.output
  size : W.heap.size ≤ W1.heap.size
  block : ∀ k, k < W.heap.size → ¬ S k → W1.heap[k]? = W.heap[k]?

theorem Fr.refl (S : Nat → Prop) (W : World) : Fr S W W := ⟨rfl, rfl, rfl, Nat.le_refl _, fun _ _ _ => rfl⟩
theorem Fr.trans {S : Nat → Prop} {A B C : World} (h : Fr S A B) (k : Fr S B C) : Fr S A C :=
  ⟨k.os.trans h.os, k.tape.trans h.tape, k.output.trans h.output, Nat.le_trans h.size k.size,
    fun i hi hs => (k.block i (Nat.lt_of_lt_of_le hi h.size) hs).trans (h.block i hi hs)⟩
theorem Fr.mono {S T : Nat → Prop} {A B : World} (h : Fr S A B) (hs : ∀ k, k < A.heap.size → S k → T k) : Fr T A B :=
  ⟨h.os, h.tape, h.output, h.size, fun i hi ht => h.block i hi (fun q => ht (hs i hi q))⟩
theorem Fr.trans_of {S T : Nat → Prop} {A B C : World} (h : Fr S A B) (k : Fr T B C) (hs : ∀ i, i < A.heap.size → T i → S i) : Fr S A C :=
  ⟨k.os.trans h.os, k.tape.trans h.tape, k.output.trans h.output, Nat.le_trans h.size k.size,
    fun i hi hn => (k.block i (Nat.lt_of_lt_of_le hi h.size) (fun q => hn (hs i hi q))).trans (h.block i hi hn)⟩
/-- What turned was a block that A did not have. -/
theorem Fr.trans_new {S : Nat → Prop} {A B C : World} {b : Nat} (h : Fr S A B) (k : Fr (fun q => q = b) B C) (hb : A.heap.size ≤ b) : Fr S A C :=
  h.trans_of k (fun i hi e => by subst e; omega)
theorem Fr.drew {S : Nat → Prop} {A B : World} (h : Fr S A B) : Fr S A B.drew := ⟨h.os, h.tape, h.output, h.size, h.block⟩
theorem Fr.drewN {S : Nat → Prop} {A B : World} (h : Fr S A B) (n : Nat) : Fr S A (B.drewN n) := ⟨h.os, h.tape, h.output, h.size, h.block⟩
theorem Fr.alloc {S : Nat → Prop} {A B : World} (h : Fr S A B) (o : Obj) : Fr S A (B.alloc o) :=
  h.trans ⟨rfl, rfl, rfl, by simp, fun k hk _ => Below.heap_alloc _ _ _ hk⟩
theorem Fr.setCell {S : Nat → Prop} {A B : World} (h : Fr S A B) {p : Addr} (hp : S p.block ∨ A.heap.size ≤ p.block) (u : Value) : Fr S A (B.setCell p u) :=
  ⟨h.os, h.tape, h.output, by have := h.size; simpa [World.setCell] using this,
    fun k hk hs => (Below.heap_setCell _ _ _ _ (fun e => by subst e; rcases hp with hp | hp; exact hs hp; omega)).trans (h.block k hk hs)⟩
theorem Fr.set {S : Nat → Prop} {A B : World} (h : Fr S A B) {b : Nat} (hp : S b) (i : Nat) (u : Value) : Fr S A (B.setCell ⟨b, i, none⟩ u) := h.setCell (.inl hp) u
theorem Fr.setN {S : Nat → Prop} {A B : World} (h : Fr S A B) {b : Nat} (hp : A.heap.size ≤ b) (i : Nat) (u : Value) : Fr S A (B.setCell ⟨b, i, none⟩ u) := h.setCell (.inr hp) u
theorem Fr.of_below {S : Nat → Prop} {W W1 : World} (h : Below W.heap.size W W1) : Fr S W W1 := ⟨h.os, h.tape, h.output, h.size, fun k hk _ => h.block k hk⟩
theorem Fr.below {S : Nat → Prop} {W W1 : World} (h : Fr S W W1) (hs : ∀ k, k < W.heap.size → ¬ S k) : Below W.heap.size W W1 := ⟨h.os, h.tape, h.output, h.size, fun k hk => h.block k hk (hs k hk)⟩
theorem Fr.below_le {S : Nat → Prop} {B : Nat} {W W1 : World} (h : Fr S W W1) (hB : B ≤ W.heap.size) (hs : ∀ k, k < B → ¬ S k) : Below B W W1 := ⟨h.os, h.tape, h.output, h.size, fun k hk => h.block k (Nat.lt_of_lt_of_le hk hB) (hs k hk)⟩
theorem Fr.blk {S : Nat → Prop} {W W1 : World} {k : Nat} {o : Obj} (h : Fr S W W1) (hb : W.heap[k]? = some o) (hs : ¬ S k) : W1.heap[k]? = some o :=
  (h.block k (Array.getElem?_eq_some_iff.1 hb).1 hs).trans hb
theorem Fr.cell {S : Nat → Prop} {W W1 : World} {p : Addr} {v : Value} (h : Fr S W W1) (hp : W.cell? p = some v) (hs : ¬ S p.block) : W1.cell? p = some v :=
  (World.cell?_of_block (w := W) (h.block p.block (World.block_lt_of_cell? W _ hp) hs)).trans hp
/-- Nothing that was there has turned. -/
abbrev Nw (W W1 : World) : Prop := Fr (fun _ => False) W W1

/-- The block b alone. -/
def One (b : Nat) : Nat → Prop := fun k => k = b
theorem One.self (b : Nat) : One b b := rfl
theorem One.ne {b k : Nat} (h : k ≠ b) : ¬ One b k := h

theorem blk_lt {W : World} {b : Nat} {o : Obj} (h : W.heap[b]? = some o) : b < W.heap.size := (Array.getElem?_eq_some_iff.1 h).1
theorem blk_cell {W : World} {b : Nat} {cs : Array Value} {t : TypeId} {m : Nat × Nat} (h : W.heap[b]? = some (.cells cs t m)) (i : Nat) : W.cell? ⟨b, i, none⟩ = cs[i]? := by
  simp [World.cell?, h]
theorem blk_frozen {W : World} {b : Nat} {cs : Array Value} {t : TypeId} (h : W.heap[b]? = some (.cells cs t (0, 0))) (i : Nat) : W.frozen? ⟨b, i, none⟩ = false := by
  simp [World.frozen?, h]
theorem blk_set {W : World} {b : Nat} {cs : Array Value} {t : TypeId} {m : Nat × Nat} (h : W.heap[b]? = some (.cells cs t m)) (i : Nat) (v : Value) :
    (W.setCell ⟨b, i, none⟩ v).heap[b]? = some (.cells (cs.setIfInBounds i v) t m) := by
  simp [World.setCell, Array.getElem?_modify, h]
theorem blk_far {W : World} {b : Nat} {o : Obj} (h : W.heap[b]? = some o) {p : Addr} (hp : b ≠ p.block) (v : Value) : (W.setCell p v).heap[b]? = some o :=
  (Below.heap_setCell _ _ _ _ hp).trans h
theorem blk_alloc {W : World} {b : Nat} {o : Obj} (h : W.heap[b]? = some o) (q : Obj) : (W.alloc q).heap[b]? = some o :=
  (Below.heap_alloc _ _ _ (blk_lt h)).trans h
theorem blk_new (W : World) (q : Obj) : (W.alloc q).heap[W.heap.size]? = some q := by
  show (W.heap.push q)[W.heap.size]? = some q
  simp
theorem blk_drew {W : World} {b : Nat} {o : Obj} (h : W.heap[b]? = some o) : W.drew.heap[b]? = some o := h
theorem blk_drewN {W : World} {b : Nat} {o : Obj} (h : W.heap[b]? = some o) (n : Nat) : (W.drewN n).heap[b]? = some o := h

theorem ret_int {k : IntKind} {a b : Int} (h : a = b) : Ending.returned (.int k a) = .returned (.int k b) := by rw [h]
theorem ret_bool {a b : Bool} (h : a = b) : Ending.returned (.bool a) = .returned (.bool b) := by rw [h]
theorem u8_bd {a : Int} (h : (Lit.int .u8 a).wf = true) : 0 ≤ a ∧ a ≤ 255 := by simpa [Lit.wf, IntKind.min, IntKind.max, IntKind.signed, IntKind.bits] using h
theorem u16_bd {a : Int} (h : (Lit.int .u16 a).wf = true) : 0 ≤ a ∧ a ≤ 65535 := by simpa [Lit.wf, IntKind.min, IntKind.max, IntKind.signed, IntKind.bits] using h
theorem u64_bd {a : Int} (h : (Lit.int .u64 a).wf = true) : 0 ≤ a ∧ a ≤ 18446744073709551615 := by simpa [Lit.wf, IntKind.min, IntKind.max, IntKind.signed, IntKind.bits] using h
theorem i64_bd {a : Int} (h : (Lit.int .i64 a).wf = true) : -9223372036854775808 ≤ a ∧ a ≤ 9223372036854775807 := by simpa [Lit.wf, IntKind.min, IntKind.max, IntKind.signed, IntKind.bits] using h

end Go.Proofs.YtnhdcefoigmjpaaDoor
