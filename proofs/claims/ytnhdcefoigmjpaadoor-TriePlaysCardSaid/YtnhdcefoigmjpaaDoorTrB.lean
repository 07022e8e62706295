/-
  Merged by merge.py: TrPool TrPool2 TrPool3 TrPool4 TrPool5 TrPool6.
-/
import Derived.RegionTactic
import Derived.BigQuiet
import Derived.Deep.QuietTactic
import Derived.StillTailTactics
import Derived.Laws.OwnMore
import Derived.Test.YtnhdcefoigmjpaaDoorBit
import Derived.Test.YtnhdcefoigmjpaaDoorTrA
import Derived.Deep.AppendLies
import Derived.Deep.RegionLawGrows
import Derived.Deep.RegionHeld3
/-
  The contracts of the pool of a trie's nodes, and of its meter.
-/
namespace Go.Proofs.YtnhdcefoigmjpaaDoor
open Go.RowKit Go.Proofs.YtnhdcefoigmjpaaDoorW.PrintWords Go.Proofs.YtnhdcefoigmjpaaDoorW.PrintMore
attribute [local go_sem] max2_int min2_int max_two min_two
set_option linter.unusedVariables false
set_option linter.unusedSimpArgs false

/-! ### the meter -/
/-- Block m is a meter: so many steps since the last start; what else it counts is left open. -/
def MT (W : World) (m : Nat) (t : Int) : Prop := ∃ r c p s : Int, W.heap[m]? = some (.cells #[.int .i64 r, .int .i64 c, .int .i64 t, .int .i64 p, .int .i64 s] 98 (0, 0))
theorem MT.fr {W W1 : World} {m : Nat} {t : Int} {S : Nat → Prop} (h : MT W m t) (hf : Fr S W W1) (hm : ¬ S m) : MT W1 m t := by
  obtain ⟨r, c, p, s, h⟩ := h
  exact ⟨r, c, p, s, hf.blk h hm⟩
theorem MT.mlt {W : World} {m : Nat} {t : Int} (h : MT W m t) : m < W.heap.size := by obtain ⟨_, _, _, _, h⟩ := h; exact blk_lt h

theorem mt_24 {W : World} {m : Nat} {r c t p s : Int} (h : W.heap[m]? = some (.cells #[.int .i64 r, .int .i64 c, .int .i64 t, .int .i64 p, .int .i64 s] 98 (0, 0))) (x y : Int) :
    MT ((W.setCell ⟨m, 2, none⟩ (.int .i64 x)).setCell ⟨m, 4, none⟩ (.int .i64 y)) m x := ⟨r, c, p, y, blk_set (blk_set h 2 (.int .i64 x)) 4 (.int .i64 y)⟩
theorem mt_23 {W : World} {m : Nat} {r c t p s : Int} (h : W.heap[m]? = some (.cells #[.int .i64 r, .int .i64 c, .int .i64 t, .int .i64 p, .int .i64 s] 98 (0, 0))) (x y : Int) :
    MT ((W.setCell ⟨m, 2, none⟩ (.int .i64 x)).setCell ⟨m, 3, none⟩ (.int .i64 y)) m x := ⟨r, c, y, s, blk_set (blk_set h 2 (.int .i64 x)) 3 (.int .i64 y)⟩
set_option maxHeartbeats 1000000 in
theorem mt_new (w : World) : Calls Tryd.prog 38 #[] w fun e w' => ∃ m, e = .returned (.pointer (some ⟨m, 0, none⟩)) ∧ w.heap.size ≤ m ∧ MT w' m 0 ∧ Nw w w' := by
  go_enter Tryd.func38, Tryd.ntmps38
  go_wp2
  go_ret
  exact ⟨w.heap.size, rfl, Nat.le_refl _, ⟨0, 0, 0, 0, blk_new _ _⟩, (Fr.refl _ _).alloc _⟩
set_option maxHeartbeats 1000000 in
theorem mt_start (m : Nat) (t : Int) (w : World) (h : MT w m t) : Calls Tryd.prog 72 #[.pointer (some ⟨m, 0, none⟩)] w fun e w' => e = .returned (.tuple #[]) ∧ MT w' m 0 ∧ Fr (One m) w w' := by
  obtain ⟨r, c, p, s, h⟩ := h
  have hc := blk_cell h 4
  have hd := blk_cell h 2
  have hf := blk_frozen h 2
  have hg := blk_frozen h 4
  have H := Lib.hid h
  clear h
  go_enter Tryd.func72, Tryd.ntmps72
  go_wp2
  go_end0
  exact ⟨rfl, mt_24 H.out _ _, ((Fr.refl _ _).set (One.self m) _ _).set (One.self m) _ _⟩

set_option maxHeartbeats 1000000 in
theorem mt_step (m : Nat) (t : Int) (w : World) (h : MT w m t) (h1 : 0 ≤ t) (h2 : t ≤ 1000000000000) : Calls Tryd.prog 85 #[.pointer (some ⟨m, 0, none⟩)] w fun e w' => e = .returned (.tuple #[]) ∧ MT w' m (t + 1) ∧ Fr (One m) w w' := by
  obtain ⟨r, c, p, s, h⟩ := h
  have hc := blk_cell h 2
  have hd := blk_cell h 3
  have hf := blk_frozen h 2
  have hg := blk_frozen h 3
  have H := Lib.hid h
  clear h
  go_enter Tryd.func85, Tryd.ntmps85
  go_wp2
  go_region
  go_end0
  exact ⟨rfl, mt_23 H.out _ _, (((Fr.refl _ _).set (One.self m) _ _).set (One.self m) _ _).drew⟩

set_option maxHeartbeats 1000000 in
theorem mt_read (m : Nat) (t : Int) (w : World) (h : MT w m t) (h1 : 0 ≤ t) (h2 : t ≤ 1000000000000) : Calls Tryd.prog 74 #[.pointer (some ⟨m, 0, none⟩)] w fun e w' => e = .returned (.tuple #[]) ∧ MT w' m (t + 1) ∧ Fr (One m) w w' := by
  obtain ⟨r, c, p, s, h⟩ := h
  have hc := blk_cell h 0
  have hf := blk_frozen h 0
  have H := Lib.hid h
  clear h
  go_enter Tryd.func74, Tryd.ntmps74
  go_wp2_with (go_at_call 85; refine (mt_step m t _ ⟨_, c, p, s, blk_set H.out 0 _⟩ h1 h2).mono ?_; rintro e w' ⟨rfl, hm, hf⟩; have HM := Lib.hid hm; have HF := Lib.hid hf; clear hm hf)
  go_end0
  exact ⟨rfl, HM.out, ((Fr.refl _ _).set (One.self m) _ _).trans HF.out⟩

theorem fldm (r c t p s : Int) (w : World) : (Instr.field 98 (.agg #[.int .i64 r, .int .i64 c, .int .i64 t, .int .i64 p, .int .i64 s]) 2).run Tryd.prog w = .ok (.int .i64 t) w := by kernel_rfl
set_option maxHeartbeats 400000 in
theorem mt_see (m : Nat) (t : Int) (w : World) (h : MT w m t) : Calls Tryd.prog 71 #[.pointer (some ⟨m, 0, none⟩)] w fun e w' => (∃ r c p s : Int, e = .returned (.agg #[.int .i64 r, .int .i64 c, .int .i64 t, .int .i64 p, .int .i64 s])) ∧ Nw w w' := by
  obtain ⟨r, c, p, s, h⟩ := h
  have c0 := blk_cell h 0
  have c1 := blk_cell h 1
  have c2 := blk_cell h 2
  have c3 := blk_cell h 3
  have c4 := blk_cell h 4
  have hb := blk_lt h
  clear h
  go_enter Tryd.func71, Tryd.ntmps71
  go_wp2
  go_returns
  exact ⟨⟨_, _, _, _, rfl⟩, (Fr.refl _ _).alloc _⟩
set_option maxHeartbeats 400000 in
theorem mt_taken (m : Nat) (t : Int) (w : World) (h : MT w m t) : Calls Tryd.prog 35 #[.pointer (some ⟨m, 0, none⟩)] w fun e w' => e = .returned (.int .i64 t) ∧ Nw w w' := by
  have H := Lib.hid h
  clear h
  go_enter Tryd.func35, Tryd.ntmps35
  go_wp2_with (go_at_call 71; refine (mt_see m t _ H.out).mono ?_; rintro e w' ⟨⟨r, c, p, s, rfl⟩, hf⟩; have HF := Lib.hid hf; have fl := fldm r c t p s; clear hf)
  go_ret
  exact ⟨rfl, HF.out⟩

/-! ### the cells -/
/-- A node: its children's bits, the slice of their numbers, how many keys, the least, the greatest. -/
structure Nd where
  b : Nat
  ka : Option Addr
  kn : Nat
  kc : Nat
  n : Nat
  lo : Nat
  hi : Nat
def Nd.kv (x : Nd) : Value := .slice x.ka x.kn x.kc
def Nd.vals (x : Nd) : Array Value := #[.int .u64 x.b, .slice x.ka x.kn x.kc, .int .i64 x.n, .int .u64 x.lo, .int .u64 x.hi]
def Nd.zero : Nd := ⟨0, none, 0, 0, 0, 0, 0⟩
/-- A cell: a node that is there, or nothing. -/
def cellsO : Option Nd → List Value
  | none => [.int .u64 0, .slice none 0 0, .int .i64 0, .int .u64 0, .int .u64 0, .bool false]
  | some x => [.int .u64 x.b, .slice x.ka x.kn x.kc, .int .i64 x.n, .int .u64 x.lo, .int .u64 x.hi, .bool true]
def flatC (rows : List (Option Nd)) : List Value := rows.flatMap cellsO
theorem cellsO_len (o : Option Nd) : (cellsO o).length = 6 := by cases o <;> rfl
theorem flatC_len (rows : List (Option Nd)) : (flatC rows).length = rows.length * 6 := by
  induction rows with
  | nil => rfl
  | cons o l ih => simp only [flatC, List.flatMap_cons, List.length_append, cellsO_len, List.length_cons]; have := ih; simp only [flatC] at this; omega
theorem flatC_get (rows : List (Option Nd)) (j c : Nat) (o : Option Nd) (h : rows[j]? = some o) (hc : c < 6) : (flatC rows)[j * 6 + c]? = (cellsO o)[c]? := by
  induction rows generalizing j with
  | nil => simp at h
  | cons a l ih =>
    simp only [flatC, List.flatMap_cons]
    cases j with
    | zero =>
      simp only [List.getElem?_cons_zero, Option.some.injEq] at h
      subst h
      rw [List.getElem?_append_left (by rw [cellsO_len]; omega)]
      simp
    | succ j =>
      rw [List.getElem?_append_right (by rw [cellsO_len]; omega), cellsO_len]
      have e : (j + 1) * 6 + c - 6 = j * 6 + c := by omega
      rw [e]
      exact ih j (by simpa using h)
theorem flatC_append (rows : List (Option Nd)) (o : Option Nd) : flatC (rows ++ [o]) = flatC rows ++ cellsO o := by simp [flatC]

end Go.Proofs.YtnhdcefoigmjpaaDoor

/-
  The contracts of the pool of a trie's nodes: what it is, and reading.
-/
namespace Go.Proofs.YtnhdcefoigmjpaaDoor
open Go.RowKit Go.Proofs.YtnhdcefoigmjpaaDoorW.PrintWords Go.Proofs.YtnhdcefoigmjpaaDoorW.PrintMore
attribute [local go_sem] max2_int min2_int max_two min_two
set_option linter.unusedVariables false
set_option linter.unusedSimpArgs false

def liveN (rows : List (Option Nd)) : Nat := rows.countP (·.isSome)
def intsN (l : List Nat) : List Int := l.map (fun (j : Nat) => (j : Int))
theorem intsN_len (l : List Nat) : (intsN l).length = l.length := by simp [intsN]
/-- Block p is a pool of nodes with these cells and these that are free. -/
structure Pl (W : World) (p m : Nat) (rows : List (Option Nd)) (free : List Nat) (lim : Nat) (cv fv : Value) : Prop where
  blk : W.heap[p]? = some (.cells #[.pointer (some ⟨m, 0, none⟩), cv, fv, .int .i64 (liveN rows), .int .i64 lim] 102 (0, 0))
  own : W.ownsRow 0 108 6 cv rows.length (flatC rows)
  fre : Kd.R (Kd.int .i64) 3 W 0 (fun _ => True) fv (intsN free)
  gone : ∀ j ∈ free, rows[j]? = some none
  nodup : free.Nodup
  cnt : rows.length = liveN rows + free.length
  fits : rows.length ≤ lim
  limB : lim ≤ 1048576

theorem Pl.lt {W : World} {p m : Nat} {rows : List (Option Nd)} {free : List Nat} {lim : Nat} {cv fv : Value} (h : Pl W p m rows free lim cv fv) : p < W.heap.size := blk_lt h.blk

theorem R_grown {k : IntKind} {e : Nat} {W W1 : World} {v : Value} {xs : List Int} {row : Option Nat} (h : Kd.R (Kd.int k) e W 0 (fun _ => True) v xs) (hg : W.grownBy W1 row) (hne : ∀ q, v.ownBlock = some q → row ≠ some q) : Kd.R (Kd.int k) e W1 0 (fun _ => True) v xs := by
  refine Kd.R_of_own (World.ownsRow.kept (Kd.own_of_R h) hg ?_) (fun _ _ => trivial)
  cases hv : v.ownBlock with
  | none => exact .inl rfl
  | some q => exact .inr (fun e => hne q hv e.symm)
theorem R_alloc {k : IntKind} {e : Nat} {W : World} {v : Value} {xs : List Int} (h : Kd.R (Kd.int k) e W 0 (fun _ => True) v xs) (o : Obj) : Kd.R (Kd.int k) e (W.alloc o) 0 (fun _ => True) v xs :=
  R_grown h (World.grownBy_alloc W o none) (fun q _ h => by cases h)
set_option maxHeartbeats 1000000 in
theorem pl_live (p m : Nat) (rows : List (Option Nd)) (free : List Nat) (lim : Nat) (cv fv : Value) (w : World) (h : Pl w p m rows free lim cv fv) (j : Nat) (x : Nd) (hx : rows[j]? = some (some x)) :
    Calls Tryd.prog 83 #[.pointer (some ⟨p, 0, none⟩), .int .i64 j] w fun e w' => e = .returned (.bool true) ∧ w = w' := by
  have hj : j < rows.length := (List.getElem?_eq_some_iff.1 hx).1
  obtain ⟨g, cap, rfl, _, hg⟩ := h.own.form (by omega)
  have hb := h.fits
  have hl := h.limB
  have hc := blk_cell h.blk 1
  have h5 : w.cell? ⟨g, j * 6 + 5, none⟩ = some (.bool true) := by rw [h.own.cellAt _ (by omega), flatC_get rows j 5 _ hx (by omega)]; rfl
  clear h
  go_enter Tryd.func83, Tryd.ntmps83
  go_wp2
  go_ret
  exact ⟨rfl, rfl⟩


set_option maxHeartbeats 1000000 in
theorem pl_peek (p m : Nat) (rows : List (Option Nd)) (free : List Nat) (lim : Nat) (cv fv : Value) (w : World) (h : Pl w p m rows free lim cv fv) (j : Nat) (x : Nd) (hx : rows[j]? = some (some x)) :
    Calls Tryd.prog 73 #[.pointer (some ⟨p, 0, none⟩), .int .i64 j] w fun e w' => e = .returned (.tuple #[(Value.agg #[Value.int IntKind.u64 (Nd.b x), Value.slice (Nd.ka x) (Nd.kn x) (Nd.kc x), Value.int IntKind.i64 (Nd.n x), Value.int IntKind.u64 (Nd.lo x), Value.int IntKind.u64 (Nd.hi x)]), .bool true]) ∧ Nw w w' := by
  have H := Lib.hid h
  have hj : j < rows.length := (List.getElem?_eq_some_iff.1 hx).1
  obtain ⟨g, cap, rfl, _, hg⟩ := h.own.form (by omega)
  have hb := h.fits
  have hl := h.limB
  have hc := blk_cell h.blk 1
  have hp := h.lt
  have h0 : w.cell? ⟨g, j * 6, none⟩ = some (.int .u64 x.b) := by have e := flatC_get rows j 0 _ hx (by omega); rw [h.own.cellAt _ (by omega), show j * 6 = j * 6 + 0 from rfl, e]; rfl
  have h1 : w.cell? ⟨g, j * 6 + 1, none⟩ = some (.slice x.ka x.kn x.kc) := by rw [h.own.cellAt _ (by omega), flatC_get rows j 1 _ hx (by omega)]; rfl
  have h2 : w.cell? ⟨g, j * 6 + 2, none⟩ = some (.int .i64 x.n) := by rw [h.own.cellAt _ (by omega), flatC_get rows j 2 _ hx (by omega)]; rfl
  have h3 : w.cell? ⟨g, j * 6 + 3, none⟩ = some (.int .u64 x.lo) := by rw [h.own.cellAt _ (by omega), flatC_get rows j 3 _ hx (by omega)]; rfl
  have h4 : w.cell? ⟨g, j * 6 + 4, none⟩ = some (.int .u64 x.hi) := by rw [h.own.cellAt _ (by omega), flatC_get rows j 4 _ hx (by omega)]; rfl
  have HX := Lib.hid hx
  clear h hx
  go_enter Tryd.func73, Tryd.ntmps73
  go_wp2_with (go_at_call 83; refine (pl_live p m rows free lim _ fv _ ⟨blk_alloc H.out.blk _, H.out.own.alloc _, R_alloc H.out.fre _, H.out.gone, H.out.nodup, H.out.cnt, H.out.fits, H.out.limB⟩ j x HX.out).mono ?_; rintro e w' ⟨rfl, rfl⟩)
  go_returns
  exact ⟨rfl, (Fr.refl _ _).alloc _⟩

theorem grown_of {S : Nat → Prop} {W W1 : World} (h : Fr S W W1) (row : Option Nat) (hS : ∀ k, S k → row = some k) : W.grownBy W1 row :=
  ⟨h.os, h.tape, h.output, h.size, fun k hk hne => h.block k hk (fun hs => hne (hS k hs).symm)⟩
theorem own_fr {S : Nat → Prop} {W W1 : World} {e size n : Nat} {v : Value} {xs : List Value} (h : W.ownsRow 0 e size v n xs) (hf : Fr S W W1) (hS : ∀ q, v.ownBlock = some q → ¬ S q) : W1.ownsRow 0 e size v n xs := by
  obtain ⟨h1, h2⟩ := h
  refine ⟨h1, ?_⟩
  rcases h2 with h2 | ⟨g, cap, cur, rfl, hb, hg, rest⟩
  · exact .inl h2
  · exact .inr ⟨g, cap, cur, rfl, hb, hf.blk hg (hS g rfl), rest⟩
theorem R_fr {k : IntKind} {e : Nat} {S : Nat → Prop} {W W1 : World} {v : Value} {xs : List Int} (h : Kd.R (Kd.int k) e W 0 (fun _ => True) v xs) (hf : Fr S W W1) (hS : ∀ q, v.ownBlock = some q → ¬ S q) : Kd.R (Kd.int k) e W1 0 (fun _ => True) v xs :=
  Kd.R_of_own (own_fr (Kd.own_of_R h) hf hS) (fun _ _ => trivial)
/-- The block of an owned row has the row's type. -/
theorem own_blk {W : World} {e size n : Nat} {v : Value} {xs : List Value} (h : W.ownsRow 0 e size v n xs) (q : Nat) (hq : v.ownBlock = some q) : ∃ cur, W.heap[q]? = some (.cells cur e (0, 0)) := by
  rcases h.2 with ⟨rfl, _⟩ | ⟨g, cap, cur, rfl, _, hg, _⟩
  · simp [Value.ownBlock] at hq
  · simp only [Value.ownBlock, Option.some.injEq] at hq
    subst hq; exact ⟨cur, hg⟩
theorem typ_ne {W : World} {a b : Nat} {ca cb : Array Value} {s t : TypeId} {i j : Nat × Nat} (ha : W.heap[a]? = some (.cells ca s i)) (hb : W.heap[b]? = some (.cells cb t j)) (h : s ≠ t) : a ≠ b := by
  rintro rfl
  rw [ha] at hb
  simp only [Option.some.injEq, Obj.cells.injEq] at hb
  exact h hb.2.1
/-- A pool is kept by what turns none of its three blocks. -/
theorem Pl.fr {S : Nat → Prop} {W W1 : World} {p m : Nat} {rows : List (Option Nd)} {free : List Nat} {lim : Nat} {cv fv : Value} (h : Pl W p m rows free lim cv fv) (hf : Fr S W W1) (hp : ¬ S p)
    (hc : ∀ q, cv.ownBlock = some q → ¬ S q) (hv : ∀ q, fv.ownBlock = some q → ¬ S q) : Pl W1 p m rows free lim cv fv :=
  ⟨hf.blk h.blk hp, own_fr h.own hf hc, R_fr h.fre hf hv, h.gone, h.nodup, h.cnt, h.fits, h.limB⟩
theorem Pl.nw {W W1 : World} {p m : Nat} {rows : List (Option Nd)} {free : List Nat} {lim : Nat} {cv fv : Value} (h : Pl W p m rows free lim cv fv) (hf : Nw W W1) : Pl W1 p m rows free lim cv fv :=
  h.fr hf (fun h => h) (fun _ _ h => h) (fun _ _ h => h)
theorem Pl.meter {W W1 : World} {p m : Nat} {rows : List (Option Nd)} {free : List Nat} {lim : Nat} {cv fv : Value} {t : Int} (h : Pl W p m rows free lim cv fv) (hm : MT W m t) (hf : Fr (One m) W W1) : Pl W1 p m rows free lim cv fv := by
  obtain ⟨_, _, _, _, hb⟩ := hm
  refine h.fr hf (typ_ne h.blk hb (by decide)) (fun q hq => ?_) (fun q hq => ?_)
  · obtain ⟨_, hc⟩ := own_blk h.own q hq
    exact typ_ne hc hb (by decide)
  · obtain ⟨_, hc⟩ := own_blk (Kd.own_of_R h.fre) q hq
    exact typ_ne hc hb (by decide)

theorem nd_cells {W : World} {b : Nat} {a0 a1 a2 a3 a4 : Value} {t : TypeId} (h : W.heap[b]? = some (.cells #[a0, a1, a2, a3, a4] t (0, 0))) :
    W.cell? ⟨b, 0, none⟩ = some a0 ∧ W.cell? ⟨b, 1, none⟩ = some a1 ∧ W.cell? ⟨b, 2, none⟩ = some a2 ∧ W.cell? ⟨b, 3, none⟩ = some a3 ∧ W.cell? ⟨b, 4, none⟩ = some a4 :=
  ⟨blk_cell h 0, blk_cell h 1, blk_cell h 2, blk_cell h 3, blk_cell h 4⟩
set_option maxHeartbeats 1000000 in
theorem pl_at (p m : Nat) (rows : List (Option Nd)) (free : List Nat) (lim : Nat) (cv fv : Value) (t : Int) (w : World) (h : Pl w p m rows free lim cv fv) (hm : MT w m t) (h1 : 0 ≤ t) (h2 : t ≤ 1000000000000) (j : Nat) (x : Nd) (hx : rows[j]? = some (some x)) :
    Calls Tryd.prog 41 #[.pointer (some ⟨p, 0, none⟩), .int .i64 j] w fun e w' => e = .returned (.tuple #[(Value.agg #[Value.int IntKind.u64 (Nd.b x), Value.slice (Nd.ka x) (Nd.kn x) (Nd.kc x), Value.int IntKind.i64 (Nd.n x), Value.int IntKind.u64 (Nd.lo x), Value.int IntKind.u64 (Nd.hi x)]), .bool true]) ∧ MT w' m (t + 1) ∧ Fr (One m) w w' := by
  have H := Lib.hid h
  have HM := Lib.hid hm
  have hc : w.cell? ⟨p, 0, none⟩ = some (.pointer (some ⟨m, 0, none⟩)) := blk_cell h.blk 0
  have hp := h.lt
  have hml := hm.mlt
  have HX := Lib.hid hx
  clear h hx hm
  go_enter Tryd.func41, Tryd.ntmps41
  go_wp2_with (first | (go_at_call 73; refine (pl_peek p m rows free lim cv fv _ (H.out.nw ((Fr.refl _ _).alloc _)) j x HX.out).mono ?_; rintro e w1 ⟨rfl, hf⟩; have hs1 := hf.size; have hb4 := hf.blk (blk_new _ _) (fun h => h); have HF := Lib.hid (Fr.trans ((Fr.refl _ _).alloc _) hf); have hc := HF.out.cell hc (fun h => h); have hs0 := HF.out.size; have hpw := Nat.lt_of_lt_of_le hp hs0; clear hf) | (go_at_call 74; refine (mt_read m t _ (HM.out.fr (HF.out.alloc _) (fun h => h)) h1 h2).mono ?_; rintro e w2 ⟨rfl, hm, hf⟩; have HM2 := Lib.hid hm; have HF2 := Lib.hid hf; have hb6 := hf.blk (blk_new _ _) (by simp only [One]; omega); have hb4 := hf.blk (blk_alloc hb4 _) (by simp only [One]; omega); obtain ⟨q0, q1, q2, q3, q4⟩ := nd_cells hb6; obtain ⟨r0, r1, r2, r3, r4⟩ := nd_cells hb4; have g0 := blk_frozen hb4 0; have g1 := blk_frozen hb4 1; have g2 := blk_frozen hb4 2; have g3 := blk_frozen hb4 3; have g4 := blk_frozen hb4 4;  clear hm hf))
  have hB := blk_set (blk_set (blk_set (blk_set (blk_set hb4 0 (.int .u64 x.b)) 1 (.slice x.ka x.kn x.kc)) 2 (.int .i64 x.n)) 3 (.int .u64 x.lo)) 4 (.int .u64 x.hi)
  have HF9 : Hid (Fr (One m) w (((((w2.setCell ⟨w.heap.size, 0, none⟩ (.int .u64 x.b)).setCell ⟨w.heap.size, 1, none⟩ (.slice x.ka x.kn x.kc)).setCell ⟨w.heap.size, 2, none⟩ (.int .i64 x.n)).setCell ⟨w.heap.size, 3, none⟩ (.int .u64 x.lo)).setCell ⟨w.heap.size, 4, none⟩ (.int .u64 x.hi))) :=
    Lib.hid ((((((((HF.out.mono (fun _ _ h => h.elim)).alloc _).trans HF2.out).setN (Nat.le_refl _) _ _).setN (Nat.le_refl _) _ _).setN (Nat.le_refl _) _ _).setN (Nat.le_refl _) _ _).setN (Nat.le_refl _) _ _)
  have HM9 : Hid (MT (((((w2.setCell ⟨w.heap.size, 0, none⟩ (.int .u64 x.b)).setCell ⟨w.heap.size, 1, none⟩ (.slice x.ka x.kn x.kc)).setCell ⟨w.heap.size, 2, none⟩ (.int .i64 x.n)).setCell ⟨w.heap.size, 3, none⟩ (.int .u64 x.lo)).setCell ⟨w.heap.size, 4, none⟩ (.int .u64 x.hi)) m (t + 1)) :=
    Lib.hid (HM2.out.fr ((((((Fr.refl (One w.heap.size) _).set (One.self _) _ _).set (One.self _) _ _).set (One.self _) _ _).set (One.self _) _ _).set (One.self _) _ _) (by simp only [One]; omega))
  generalize (((((w2.setCell ⟨w.heap.size, 0, none⟩ (.int .u64 x.b)).setCell ⟨w.heap.size, 1, none⟩ (.slice x.ka x.kn x.kc)).setCell ⟨w.heap.size, 2, none⟩ (.int .i64 x.n)).setCell ⟨w.heap.size, 3, none⟩ (.int .u64 x.lo)).setCell ⟨w.heap.size, 4, none⟩ (.int .u64 x.hi)) = W9 at hB HF9 HM9 ⊢
  obtain ⟨s0, s1, s2, s3, s4⟩ := nd_cells (show W9.heap[w.heap.size]? = some (.cells #[.int .u64 x.b, .slice x.ka x.kn x.kc, .int .i64 x.n, .int .u64 x.lo, .int .u64 x.hi] _ (0, 0)) from hB)
  refine bodyPost_ret (by simp [results, Tryd.results41, go_sem, s0, s1, s2, s3, s4]; try rfl) rfl ?_
  exact ⟨rfl, HM9.out, HF9.out⟩

set_option maxHeartbeats 1000000 in
theorem pl_room (p m : Nat) (rows : List (Option Nd)) (free : List Nat) (lim : Nat) (cv fv : Value) (w : World) (h : Pl w p m rows free lim cv fv) (n : Nat) (hn : n ≤ 1000) :
    Calls Tryd.prog 53 #[.pointer (some ⟨p, 0, none⟩), .int .i64 n] w fun e w' => e = .returned (.bool (decide (liveN rows + n ≤ lim))) ∧ Nw w w' := by
  have c4 := blk_cell h.blk 4
  have c3 := blk_cell h.blk 3
  have hl := h.limB
  have hb := h.fits
  have hv : liveN rows ≤ lim := by have := h.cnt; omega
  clear h
  go_enter Tryd.func53, Tryd.ntmps53
  go_wp2
  go_quiet (fail)
  go_wp2
  go_ret
  trace_state
  exact ⟨ret_bool (by simp; omega), (Fr.refl _ _).drewN _⟩

set_option maxHeartbeats 1000000 in
theorem pl_len (p m : Nat) (rows : List (Option Nd)) (free : List Nat) (lim : Nat) (cv fv : Value) (w : World) (h : Pl w p m rows free lim cv fv) :
    Calls Tryd.prog 47 #[.pointer (some ⟨p, 0, none⟩)] w fun e w' => e = .returned (.int .i64 (liveN rows)) ∧ w = w' := by
  have c3 := blk_cell h.blk 3
  clear h
  go_enter Tryd.func47, Tryd.ntmps47
  go_wp2
  go_ret
  exact ⟨rfl, rfl⟩
set_option maxHeartbeats 1000000 in
theorem pl_limit (p m : Nat) (rows : List (Option Nd)) (free : List Nat) (lim : Nat) (cv fv : Value) (w : World) (h : Pl w p m rows free lim cv fv) :
    Calls Tryd.prog 67 #[.pointer (some ⟨p, 0, none⟩)] w fun e w' => e = .returned (.int .i64 lim) ∧ w = w' := by
  have c3 := blk_cell h.blk 4
  clear h
  go_enter Tryd.func67, Tryd.ntmps67
  go_wp2
  go_ret
  exact ⟨rfl, rfl⟩

end Go.Proofs.YtnhdcefoigmjpaaDoor

/-
  The contracts of the pool of a trie's nodes: writing.
-/
namespace Go.Proofs.YtnhdcefoigmjpaaDoor
open Go.RowKit Go.Proofs.YtnhdcefoigmjpaaDoorW.PrintWords Go.Proofs.YtnhdcefoigmjpaaDoorW.PrintMore
attribute [local go_sem] max2_int min2_int max_two min_two
set_option linter.unusedVariables false
set_option linter.unusedSimpArgs false

/-- The blocks of a pool. -/
def PS (p : Nat) (cv fv : Value) : Nat → Prop := fun k => k = p ∨ cv.ownBlock = some k ∨ fv.ownBlock = some k
/-- A slice's block is the one it was, or a new one. -/
def Ext (N : Nat) (v v' : Value) : Prop := ∀ q, v'.ownBlock = some q → v.ownBlock = some q ∨ N ≤ q
theorem Ext.refl (N : Nat) (v : Value) : Ext N v v := fun q h => .inl h
theorem Ext.trans {N M : Nat} {a b c : Value} (h : Ext N a b) (k : Ext M b c) (hm : N ≤ M) : Ext N a c := fun q hq => by
  rcases k q hq with h1 | h1
  · exact h q h1
  · exact .inr (by omega)

theorem flatC_set5 (rows : List (Option Nd)) (j : Nat) (y x : Nd) (h : rows[j]? = some (some y)) :
    (((((flatC rows).set (j * 6) (.int .u64 x.b)).set (j * 6 + 1) (.slice x.ka x.kn x.kc)).set (j * 6 + 2) (.int .i64 x.n)).set (j * 6 + 3) (.int .u64 x.lo)).set (j * 6 + 4) (.int .u64 x.hi) = flatC (rows.set j (some x)) := by
  induction rows generalizing j with
  | nil => simp at h
  | cons a l ih =>
    cases j with
    | zero =>
      simp only [List.getElem?_cons_zero, Option.some.injEq] at h
      subst h
      simp [flatC, cellsO]
    | succ j =>
      have e := ih j (by simpa using h)
      have hs : ∀ (t : List Value) (i : Nat) (v : Value), (cellsO a ++ t).set (i + 6) v = cellsO a ++ t.set i v := fun t i v => by
        rw [List.set_append_right _ _ (by rw [cellsO_len]; omega), cellsO_len, Nat.add_sub_cancel]
      simp only [flatC, List.flatMap_cons, List.set_cons_succ] at e ⊢
      rw [← e, show (j + 1) * 6 = j * 6 + 6 by omega, show j * 6 + 6 + 1 = (j * 6 + 1) + 6 by omega, show j * 6 + 6 + 2 = (j * 6 + 2) + 6 by omega, show j * 6 + 6 + 3 = (j * 6 + 3) + 6 by omega, show j * 6 + 6 + 4 = (j * 6 + 4) + 6 by omega]
      simp only [hs]
theorem flatC_set6 (rows : List (Option Nd)) (j : Nat) (o : Option Nd) (a0 a1 a2 a3 a4 a5 : Value) (ho : cellsO o = [a0, a1, a2, a3, a4, a5]) (h : j < rows.length) :
    ((((((flatC rows).set (j * 6) a0).set (j * 6 + 1) a1).set (j * 6 + 2) a2).set (j * 6 + 3) a3).set (j * 6 + 4) a4).set (j * 6 + 5) a5 = flatC (rows.set j o) := by
  induction rows generalizing j with
  | nil => simp at h
  | cons a l ih =>
    cases j with
    | zero =>
      simp only [flatC, List.flatMap_cons, List.set_cons_zero, ho]
      cases a <;> simp [cellsO]
    | succ j =>
      have e := ih j (by simpa using h)
      have hs : ∀ (t : List Value) (i : Nat) (v : Value), (cellsO a ++ t).set (i + 6) v = cellsO a ++ t.set i v := fun t i v => by
        rw [List.set_append_right _ _ (by rw [cellsO_len]; omega), cellsO_len, Nat.add_sub_cancel]
      simp only [flatC, List.flatMap_cons, List.set_cons_succ] at e ⊢
      rw [← e, show (j + 1) * 6 = j * 6 + 6 by omega, show j * 6 + 6 + 1 = (j * 6 + 1) + 6 by omega, show j * 6 + 6 + 2 = (j * 6 + 2) + 6 by omega, show j * 6 + 6 + 3 = (j * 6 + 3) + 6 by omega, show j * 6 + 6 + 4 = (j * 6 + 4) + 6 by omega, show j * 6 + 6 + 5 = (j * 6 + 5) + 6 by omega]
      simp only [hs]

theorem liveN_set (rows : List (Option Nd)) (j : Nat) (o u : Option Nd) (h : rows[j]? = some u) : liveN (rows.set j o) + (if u.isSome then 1 else 0) = liveN rows + (if o.isSome then 1 else 0) := by
  induction rows generalizing j with
  | nil => simp at h
  | cons a l ih =>
    cases j with
    | zero =>
      simp only [List.getElem?_cons_zero, Option.some.injEq] at h
      subst h
      simp only [liveN, List.set_cons_zero, List.countP_cons]
      omega
    | succ j =>
      have := ih j (by simpa using h)
      simp only [liveN, List.set_cons_succ, List.countP_cons] at this ⊢
      omega

theorem oset_size {α : Type} (l : List α) (j : Nat) (o : α) : (l.set j o).length = l.length := List.length_set
/-- What a store of a node into a cell leaves. -/
theorem Pl.put {w : World} {p m : Nat} {rows : List (Option Nd)} {free : List Nat} {lim : Nat} {g n cap : Nat} {fv : Value} (h : Pl w p m rows free lim (.slice (some ⟨g, 0, none⟩) n cap) fv) (hn : n = rows.length) (j : Nat) (y x : Nd) (hx : rows[j]? = some (some y)) :
    Pl (((((w.setCell ⟨g, j * 6, none⟩ (.int .u64 x.b)).setCell ⟨g, j * 6 + 1, none⟩ (.slice x.ka x.kn x.kc)).setCell ⟨g, j * 6 + 2, none⟩ (.int .i64 x.n)).setCell ⟨g, j * 6 + 3, none⟩ (.int .u64 x.lo)).setCell ⟨g, j * 6 + 4, none⟩ (.int .u64 x.hi))
      p m (rows.set j (some x)) free lim (.slice (some ⟨g, 0, none⟩) n cap) fv := by
  subst hn
  have hf : Fr (One g) w (((((w.setCell ⟨g, j * 6, none⟩ (.int .u64 x.b)).setCell ⟨g, j * 6 + 1, none⟩ (.slice x.ka x.kn x.kc)).setCell ⟨g, j * 6 + 2, none⟩ (.int .i64 x.n)).setCell ⟨g, j * 6 + 3, none⟩ (.int .u64 x.lo)).setCell ⟨g, j * 6 + 4, none⟩ (.int .u64 x.hi)) :=
    (((((Fr.refl _ _).set (One.self g) _ _).set (One.self g) _ _).set (One.self g) _ _).set (One.self g) _ _).set (One.self g) _ _
  obtain ⟨cur, hg⟩ := own_blk h.own g rfl
  have hlv := liveN_set rows j (some x) _ hx
  simp only [Option.isSome_some, if_true] at hlv
  have hlv' : liveN (rows.set j (some x)) = liveN rows := by omega
  refine ⟨?_, ?_, R_fr h.fre hf (fun q hq => ?_), fun i hi => ?_, h.nodup, ?_, ?_, h.limB⟩
  · rw [hlv']; exact hf.blk h.blk (typ_ne h.blk hg (by decide))
  · have e := (((((h.own.stored (j * 6) (.int .u64 x.b)).1.stored (j * 6 + 1) (.slice x.ka x.kn x.kc)).1.stored (j * 6 + 2) (.int .i64 x.n)).1.stored (j * 6 + 3) (.int .u64 x.lo)).1.stored (j * 6 + 4) (.int .u64 x.hi)).1
    rw [flatC_set5 rows j y x hx] at e
    rw [oset_size]; exact e
  · obtain ⟨_, hc⟩ := own_blk (Kd.own_of_R h.fre) q hq
    exact typ_ne hc hg (by decide)
  · have := h.gone i hi
    have hne : j ≠ i := fun e => by rw [e] at hx; rw [this] at hx; cases hx
    rw [List.getElem?_set_ne hne]; exact this
  · rw [oset_size, hlv']; exact h.cnt
  · rw [oset_size]; exact h.fits

set_option maxHeartbeats 1000000 in
theorem pl_put (p m : Nat) (rows : List (Option Nd)) (free : List Nat) (lim : Nat) (cv fv : Value) (w : World) (h : Pl w p m rows free lim cv fv) (j : Nat) (y x : Nd) (hx : rows[j]? = some (some y)) :
    Calls Tryd.prog 59 #[.pointer (some ⟨p, 0, none⟩), .int .i64 j, (Value.agg #[Value.int IntKind.u64 (Nd.b x), Value.slice (Nd.ka x) (Nd.kn x) (Nd.kc x), Value.int IntKind.i64 (Nd.n x), Value.int IntKind.u64 (Nd.lo x), Value.int IntKind.u64 (Nd.hi x)])] w fun e w' => e = .returned (.bool true) ∧ Pl w' p m (rows.set j (some x)) free lim cv fv ∧ Fr (PS p cv fv) w w' := by
  have H := Lib.hid h
  have hj : j < rows.length := (List.getElem?_eq_some_iff.1 hx).1
  obtain ⟨g, cap, rfl, _, hg⟩ := h.own.form (by omega)
  have hb := h.fits
  have hl := h.limB
  have hc : w.cell? ⟨p, 1, none⟩ = some (.slice (some ⟨g, 0, none⟩) rows.length cap) := blk_cell h.blk 1
  have hp := h.lt
  have h0 : w.cell? ⟨g, j * 6, none⟩ = some (.int .u64 y.b) := by have e := flatC_get rows j 0 _ hx (by omega); rw [h.own.cellAt _ (by omega), show j * 6 = j * 6 + 0 from rfl, e]; rfl
  have h1 : w.cell? ⟨g, j * 6 + 1, none⟩ = some (.slice y.ka y.kn y.kc) := by rw [h.own.cellAt _ (by omega), flatC_get rows j 1 _ hx (by omega)]; rfl
  have h2 : w.cell? ⟨g, j * 6 + 2, none⟩ = some (.int .i64 y.n) := by rw [h.own.cellAt _ (by omega), flatC_get rows j 2 _ hx (by omega)]; rfl
  have h3 : w.cell? ⟨g, j * 6 + 3, none⟩ = some (.int .u64 y.lo) := by rw [h.own.cellAt _ (by omega), flatC_get rows j 3 _ hx (by omega)]; rfl
  have h4 : w.cell? ⟨g, j * 6 + 4, none⟩ = some (.int .u64 y.hi) := by rw [h.own.cellAt _ (by omega), flatC_get rows j 4 _ hx (by omega)]; rfl
  have f0 := h.own.frozenAt (j * 6)
  have f1 := h.own.frozenAt (j * 6 + 1)
  have f2 := h.own.frozenAt (j * 6 + 2)
  have f3 := h.own.frozenAt (j * 6 + 3)
  have f4 := h.own.frozenAt (j * 6 + 4)
  have HX := Lib.hid hx
  clear h hx
  go_enter Tryd.func59, Tryd.ntmps59
  go_wp2_with (go_at_call 83; refine (pl_live p m rows free lim _ fv _ (H.out.nw ((Fr.refl _ _).alloc _)) j y HX.out).mono ?_; rintro e w' ⟨rfl, rfl⟩)
  go_region
  go_wp2
  go_ret
  refine ⟨rfl, (H.out.put rfl j y x HX.out).nw (((Fr.refl _ _).alloc _).drew), ?_⟩
  exact ((((((((Fr.refl _ _).set (.inr (.inl rfl)) _ _).set (.inr (.inl rfl)) _ _).set (.inr (.inl rfl)) _ _).set (.inr (.inl rfl)) _ _).set (.inr (.inl rfl)) _ _).alloc _).drew)

end Go.Proofs.YtnhdcefoigmjpaaDoor

/-
  The contracts of the pool of a trie's nodes: a cell freed.
-/
namespace Go.Proofs.YtnhdcefoigmjpaaDoor
open Go.RowKit Go.Proofs.YtnhdcefoigmjpaaDoorW.PrintWords Go.Proofs.YtnhdcefoigmjpaaDoorW.PrintMore
attribute [local go_sem] max2_int min2_int max_two min_two
set_option linter.unusedVariables false
set_option linter.unusedSimpArgs false

/-- What a store of six cells leaves. -/
theorem own_set6 {w : World} {e g n cap : Nat} {rows : List (Option Nd)} (h : w.ownsRow 0 e 6 (.slice (some ⟨g, 0, none⟩) n cap) n (flatC rows)) (hn : n = rows.length) (j : Nat) (o : Option Nd) (a0 a1 a2 a3 a4 a5 : Value) (ho : cellsO o = [a0, a1, a2, a3, a4, a5]) (hj : j < rows.length) :
    World.ownsRow ((((((w.setCell ⟨g, j * 6, none⟩ a0).setCell ⟨g, j * 6 + 1, none⟩ a1).setCell ⟨g, j * 6 + 2, none⟩ a2).setCell ⟨g, j * 6 + 3, none⟩ a3).setCell ⟨g, j * 6 + 4, none⟩ a4).setCell ⟨g, j * 6 + 5, none⟩ a5)
      0 e 6 (.slice (some ⟨g, 0, none⟩) n cap) n (flatC (rows.set j o)) := by
  subst hn
  have q := ((((((h.stored (j * 6) a0).1.stored (j * 6 + 1) a1).1.stored (j * 6 + 2) a2).1.stored (j * 6 + 3) a3).1.stored (j * 6 + 4) a4).1.stored (j * 6 + 5) a5).1
  rw [flatC_set6 rows j o a0 a1 a2 a3 a4 a5 ho hj] at q
  exact q
theorem fr_set6 {S : Nat → Prop} (w : World) (g j : Nat) (hS : S g) (a0 a1 a2 a3 a4 a5 : Value) :
    Fr S w ((((((w.setCell ⟨g, j * 6, none⟩ a0).setCell ⟨g, j * 6 + 1, none⟩ a1).setCell ⟨g, j * 6 + 2, none⟩ a2).setCell ⟨g, j * 6 + 3, none⟩ a3).setCell ⟨g, j * 6 + 4, none⟩ a4).setCell ⟨g, j * 6 + 5, none⟩ a5) :=
  ((((((Fr.refl _ _).set hS _ _).set hS _ _).set hS _ _).set hS _ _).set hS _ _).set hS _ _
section
variable {P : Program} {ops : Array Oper} {rest : List Oper} {o : Oper} {a : Act} {Q : Exit → Act → World → Prop} {K : Act → World → Prop}
/-- One element of so many cells appended, where the world's size is written otherwise. -/
theorem push_list {W : World} (H : Nat) (hH : W.heap.size = H) (hgd : o.guard = none) (s x : Operand) (t e : TypeId) (z : Value) (size bytes : Nat)
    (ho : o.op = .call { callee := .builtin .append, args := #[s, x], argTypes := #[t, t] })
    (ht : P.underlying t = some (.slice e)) (hinfo : (P.info? e).map (fun i => (i.zero, i.size, i.bytes)) = some (some z, size, bytes)) (hz : z.cells.size = size) (hs0 : 0 < size) (hb0 : 0 < bytes)
    (v : Value) (n : Nat) (xs ys : List Value) (hs : a.eval s = v) (hx : a.eval x = .slice (some ⟨H, 0, none⟩) 1 1) (hys : ys.length = size) (h1 : ∀ u ∈ ys, u.oneCell' = true)
    (HO : W.ownsRow 0 e size v n xs) (hl : (n + 1) * bytes ≤ 140737488355328)
    (h : ∀ v1 w1, w1.ownsRow 0 e size v1 (n + 1) (xs ++ ys) → W.grownBy w1 v.ownBlock → (v1.ownBlock = v.ownBlock ∨ ∃ b, v1.ownBlock = some b ∧ W.heap.size ≤ b) → wpList P ops Q rest (a.put o.dst v1) w1) :
    wpList P ops Q (o :: rest) a (W.alloc (.cells ys.toArray e)) := by
  subst hH
  exact print_append_cells (w0 := W) 0 hgd s x t e z size bytes ho ht hinfo hz hs0 hb0 v n xs ys hs hx hys h1 HO (Below.refl _ _) (Nat.zero_le _) hl fun v1 w1 h2 _ h3 h4 => h v1 w1 h2 h3 h4
theorem push_step {W : World} (H : Nat) (hH : W.heap.size = H) (hw : Region.wanted o (yielded ops a.tmps) = true) (s x : Operand) (t e : TypeId) (z : Value) (size bytes : Nat)
    (ho : o.op = .call { callee := .builtin .append, args := #[s, x], argTypes := #[t, t] })
    (ht : P.underlying t = some (.slice e)) (hinfo : (P.info? e).map (fun i => (i.zero, i.size, i.bytes)) = some (some z, size, bytes)) (hz : z.cells.size = size) (hs0 : 0 < size) (hb0 : 0 < bytes)
    (v : Value) (n : Nat) (xs ys : List Value) (hs : a.eval s = v) (hx : a.eval x = .slice (some ⟨H, 0, none⟩) 1 1) (hys : ys.length = size) (h1 : ∀ u ∈ ys, u.oneCell' = true)
    (HO : W.ownsRow 0 e size v n xs) (hl : (n + 1) * bytes ≤ 140737488355328)
    (h : ∀ v1 w1, w1.ownsRow 0 e size v1 (n + 1) (xs ++ ys) → W.grownBy w1 v.ownBlock → (v1.ownBlock = v.ownBlock ∨ ∃ b, v1.ownBlock = some b ∧ W.heap.size ≤ b) → K (a.put o.dst v1) w1) :
    if Region.wanted o (yielded ops a.tmps) = true then Oper.wp P o a (W.alloc (.cells ys.toArray e)) K Q else K (a.put o.dst undef) (W.alloc (.cells ys.toArray e)) := by
  subst hH
  exact step_append_cells (w0 := W) 0 hw s x t e z size bytes ho ht hinfo hz hs0 hb0 v n xs ys hs hx hys h1 HO (Below.refl _ _) (Nat.zero_le _) hl fun v1 w1 h2 _ h3 h4 => h v1 w1 h2 h3 h4
end
theorem fr_grown {W W1 : World} {row : Option Nat} (h : W.grownBy W1 row) : Fr (fun k => row = some k) W W1 :=
  ⟨h.os, h.tape, h.output, h.size, fun k hk hne => h.block k hk (fun e => hne e.symm)⟩
theorem ext_of {W : World} {v v1 : Value} {N : Nat} (hN : N ≤ W.heap.size) (hat : v1.ownBlock = v.ownBlock ∨ ∃ b, v1.ownBlock = some b ∧ W.heap.size ≤ b) : Ext N v v1 := fun q hq => by
  rcases hat with h | ⟨b, h1, h2⟩
  · exact .inl (h ▸ hq)
  · rw [hq] at h1; cases h1; exact .inr (by omega)

set_option maxHeartbeats 400000 in
theorem pl_free (p m : Nat) (rows : List (Option Nd)) (free : List Nat) (lim : Nat) (cv fv : Value) (w : World) (h : Pl w p m rows free lim cv fv) (j : Nat) (y : Nd) (hx : rows[j]? = some (some y)) :
    Calls Tryd.prog 62 #[.pointer (some ⟨p, 0, none⟩), .int .i64 j] w fun e w' => ∃ fv', e = .returned (.bool true) ∧ Pl w' p m (rows.set j none) (free ++ [j]) lim cv fv' ∧ Ext w.heap.size fv fv' ∧ Fr (PS p cv fv) w w' := by
  have H := Lib.hid h
  have hj : j < rows.length := (List.getElem?_eq_some_iff.1 hx).1
  obtain ⟨g, cap, rfl, _, hg⟩ := h.own.form (by omega)
  have hb := h.fits
  have hl := h.limB
  have hcn := h.cnt
  have hlv := liveN_set rows j none _ hx
  simp only [Option.isSome_some, if_true, Option.isSome_none] at hlv
  have hlv1 : 1 ≤ (liveN rows : Int) := by simp at hlv; omega
  have hlv2 : (liveN rows : Int) ≤ 1048576 := by omega
  have HLB := Lib.hid hlv1
  have HBF : Hid ((intsN free).length + 1 ≤ 1048577) := Lib.hid (by rw [intsN_len]; omega)
  have HCN := Lib.hid hcn
  clear hcn
  have hc : w.cell? ⟨p, 1, none⟩ = some (.slice (some ⟨g, 0, none⟩) rows.length cap) := blk_cell h.blk 1
  have hc2 : w.cell? ⟨p, 2, none⟩ = some fv := blk_cell h.blk 2
  have hp := h.lt
  obtain ⟨cur, hgb⟩ := own_blk h.own g rfl
  have hpg : p ≠ g := typ_ne h.blk hgb (by decide)
  have hfp : ∀ q, fv.ownBlock = some q → q ≠ p := fun q hq => by obtain ⟨_, hc⟩ := own_blk (Kd.own_of_R h.fre) q hq; exact typ_ne hc h.blk (by decide)
  have hfg : ∀ q, fv.ownBlock = some q → q ≠ g := fun q hq => by obtain ⟨_, hc⟩ := own_blk (Kd.own_of_R h.fre) q hq; exact typ_ne hc hgb (by decide)
  have HP := Lib.hid hfp
  have HG := Lib.hid hfg
  have h0 : w.cell? ⟨g, j * 6, none⟩ = some (.int .u64 y.b) := by have e := flatC_get rows j 0 _ hx (by omega); rw [h.own.cellAt _ (by omega), show j * 6 = j * 6 + 0 from rfl, e]; rfl
  have h1 : w.cell? ⟨g, j * 6 + 1, none⟩ = some (.slice y.ka y.kn y.kc) := by rw [h.own.cellAt _ (by omega), flatC_get rows j 1 _ hx (by omega)]; rfl
  have h2 : w.cell? ⟨g, j * 6 + 2, none⟩ = some (.int .i64 y.n) := by rw [h.own.cellAt _ (by omega), flatC_get rows j 2 _ hx (by omega)]; rfl
  have h3 : w.cell? ⟨g, j * 6 + 3, none⟩ = some (.int .u64 y.lo) := by rw [h.own.cellAt _ (by omega), flatC_get rows j 3 _ hx (by omega)]; rfl
  have h4 : w.cell? ⟨g, j * 6 + 4, none⟩ = some (.int .u64 y.hi) := by rw [h.own.cellAt _ (by omega), flatC_get rows j 4 _ hx (by omega)]; rfl
  have h5 : w.cell? ⟨g, j * 6 + 5, none⟩ = some (.bool true) := by rw [h.own.cellAt _ (by omega), flatC_get rows j 5 _ hx (by omega)]; rfl
  have f0 := h.own.frozenAt (j * 6)
  have f1 := h.own.frozenAt (j * 6 + 1)
  have f2 := h.own.frozenAt (j * 6 + 2)
  have f3 := h.own.frozenAt (j * 6 + 3)
  have f4 := h.own.frozenAt (j * 6 + 4)
  have f5 := h.own.frozenAt (j * 6 + 5)
  have HX := Lib.hid hx
  have HLV := Lib.hid hlv
  clear h hx hfp hfg hlv
  have HPG := Lib.hid hpg
  have HPL := Lib.hid hp
  go_enter Tryd.func62, Tryd.ntmps62
  go_wp2_with (first | (go_at_call 83; refine (pl_live p m rows free lim _ fv _ H.out j y HX.out).mono ?_; rintro e w' ⟨rfl, rfl⟩) | (at_builtin; refine push_list w.heap.size (by simp) rfl (.tmp 20) (.tmp 22) 71 3 (.int .i64 0) 1 8 rfl Tryd.underlying71 info_i64 rfl (by decide) (by decide) fv (intsN free).length (encs (Value.int .i64) (intsN free)) [.int .i64 j] rfl rfl rfl (fun u hu => by rw [List.mem_singleton.1 hu]; rfl) (by exact Kd.own_of_R (R_fr H.out.fre (fr_set6 _ _ _ (One.self g) _ _ _ _ _ _) HG.out)) (by have := HBF.out; omega) ?_; intro v1 w1 hR1 hg1 hat1; obtain ⟨g1, c1, rfl, _, _⟩ := World.ownsRow.form hR1 (Nat.succ_pos _); have hb1 := (hg1.block p (by simpa using HPL.out) (fun e => HP.out p e.symm rfl)).trans ((fr_set6 w g j (One.self g) _ _ _ _ _ _).blk H.out.blk (One.ne HPG.out)); have hc12 := blk_cell hb1 2; have hc13 := blk_cell hb1 3; have hf12 := blk_frozen hb1 2; have hf13 := blk_frozen hb1 3; have HB1 := Lib.hid hb1; have HR1 := Lib.hid hR1; have HG1 := Lib.hid hg1; have HA1 := Lib.hid hat1; clear hb1 hR1 hg1 hat1))
  go_ret
  have hlv := HLV.out
  simp only [Bool.false_eq_true, if_false] at hlv
  have el : ((liveN rows : Int) - 1) = (liveN (rows.set j none) : Nat) := by omega
  have hR := HR1.out
  rw [show encs (Value.int .i64) (intsN free) ++ [Value.int .i64 (j : Int)] = encs (Value.int .i64) (intsN (free ++ [j])) by simp [encs, intsN]] at hR
  have e2 : (intsN free).length + 1 = (intsN (free ++ [j])).length := by simp [intsN]
  rw [e2] at hR
  have hbk := blk_set (blk_set HB1.out 2 (.slice (some ⟨g1, 0, none⟩) ((intsN free).length + 1) c1)) 3 (.int .i64 ((liveN rows : Int) - 1))
  have hF : Fr (One p) w1 ((w1.setCell ⟨p, 2, none⟩ (.slice (some ⟨g1, 0, none⟩) ((intsN free).length + 1) c1)).setCell ⟨p, 3, none⟩ (.int .i64 ((liveN rows : Int) - 1))) := ((Fr.refl _ _).set (One.self p) _ _).set (One.self p) _ _
  have hgp : g1 ≠ p := by obtain ⟨_, hc⟩ := own_blk HR1.out g1 rfl; exact typ_ne hc HB1.out (by decide)
  rw [el] at hbk hF ⊢
  rw [e2] at hbk hF ⊢
  refine ⟨_, rfl, ⟨hbk, ?_, R_fr (Kd.R_of_own hR (fun _ _ => trivial)) hF (fun q hq => ?_), fun i hi => ?_, ?_, ?_, by rw [oset_size]; exact H.out.fits, H.out.limB⟩, ?_, ?_⟩
  · refine own_fr (e := 108) ?_ hF (fun q hq => ?_)
    · rw [oset_size]
      exact World.ownsRow.kept (own_set6 H.out.own rfl j none _ _ _ _ _ _ rfl hj) HG1.out (.inr (fun e => HG.out g e.symm rfl))
    · simp only [Value.ownBlock, Option.some.injEq] at hq
      subst hq; exact fun h => HPG.out h.symm
  · simp only [Value.ownBlock, Option.some.injEq] at hq
    subst hq; exact hgp
  · rcases List.mem_append.1 hi with hi | hi
    · have := H.out.gone i hi
      have hne : j ≠ i := fun e => by have := HX.out; rw [e, H.out.gone i hi] at this; cases this
      rw [List.getElem?_set_ne hne]; exact this
    · rw [List.mem_singleton.1 hi, List.getElem?_set_self hj]
  · refine List.nodup_append.2 ⟨H.out.nodup, by simp, fun a ha b hb => ?_⟩
    rw [List.mem_singleton.1 hb]
    rintro rfl
    have := H.out.gone a ha
    rw [HX.out] at this; cases this
  · rw [oset_size]; have := HCN.out; simp only [List.length_append, List.length_singleton]; omega
  · have := ext_of (N := w.heap.size) (by simp) HA1.out
    intro q hq
    exact this q hq
  · refine (fr_set6 w g j (.inr (.inl rfl)) _ _ _ _ _ _).trans ((fr_grown HG1.out).mono (fun k _ h => .inr (.inr h)) |>.trans (hF.mono (fun k _ h => .inl h)))

end Go.Proofs.YtnhdcefoigmjpaaDoor

/-
  The contracts of the pool of a trie's nodes: a cell taken.
-/
namespace Go.Proofs.YtnhdcefoigmjpaaDoor
open Go.RowKit Go.Proofs.YtnhdcefoigmjpaaDoorW.PrintWords Go.Proofs.YtnhdcefoigmjpaaDoorW.PrintMore
attribute [local go_sem] max2_int min2_int max_two min_two
set_option linter.unusedVariables false
set_option linter.unusedSimpArgs false

theorem old_facts {W : World} {p m : Nat} {rows : List (Option Nd)} {fs : List Nat} {i lim g cap q capf n nf : Nat} (h : Pl W p m rows (fs ++ [i]) lim (.slice (some ⟨g, 0, none⟩) n cap) (.slice (some ⟨q, 0, none⟩) nf capf)) (hn : n = rows.length) (hnf : nf = fs.length + 1) :
    (W.cell? ⟨p, 1, none⟩ = some (.slice (some ⟨g, 0, none⟩) n cap) ∧ W.cell? ⟨p, 2, none⟩ = some (.slice (some ⟨q, 0, none⟩) nf capf) ∧ W.cell? ⟨p, 3, none⟩ = some (.int .i64 (liveN rows)) ∧ W.frozen? ⟨p, 2, none⟩ = false ∧ W.frozen? ⟨p, 3, none⟩ = false ∧ W.cell? ⟨q, fs.length, none⟩ = some (.int .i64 i)) ∧
    (W.cell? ⟨g, i * 6, none⟩ = some (.int .u64 0) ∧ W.cell? ⟨g, i * 6 + 1, none⟩ = some (.slice none 0 0) ∧ W.cell? ⟨g, i * 6 + 2, none⟩ = some (.int .i64 0) ∧ W.cell? ⟨g, i * 6 + 3, none⟩ = some (.int .u64 0) ∧ W.cell? ⟨g, i * 6 + 4, none⟩ = some (.int .u64 0) ∧ W.cell? ⟨g, i * 6 + 5, none⟩ = some (.bool false)) ∧
    (W.frozen? ⟨g, i * 6, none⟩ = false ∧ W.frozen? ⟨g, i * 6 + 1, none⟩ = false ∧ W.frozen? ⟨g, i * 6 + 2, none⟩ = false ∧ W.frozen? ⟨g, i * 6 + 3, none⟩ = false ∧ W.frozen? ⟨g, i * 6 + 4, none⟩ = false ∧ W.frozen? ⟨g, i * 6 + 5, none⟩ = false) ∧ p < W.heap.size ∧ g < W.heap.size ∧ q < W.heap.size ∧ p ≠ g ∧ p ≠ q ∧ g ≠ q ∧ nf ≤ capf := by
  subst hn hnf
  have hi : rows[i]? = some none := h.gone i (by simp)
  have hil : i < rows.length := (List.getElem?_eq_some_iff.1 hi).1
  have hown := Kd.own_of_R h.fre
  rw [intsN_len, List.length_append, List.length_singleton] at hown
  have hfc : W.cell? ⟨q, fs.length, none⟩ = some (.int .i64 i) := by
    rw [hown.cellAt _ (by omega)]
    simp [encs, intsN]
  obtain ⟨cur, hgb⟩ := own_blk h.own g rfl
  obtain ⟨cuf, hqb⟩ := own_blk hown q rfl
  refine ⟨⟨blk_cell h.blk 1, blk_cell h.blk 2, blk_cell h.blk 3, blk_frozen h.blk 2, blk_frozen h.blk 3, hfc⟩, ⟨?_, ?_, ?_, ?_, ?_, ?_⟩, ⟨h.own.frozenAt _, h.own.frozenAt _, h.own.frozenAt _, h.own.frozenAt _, h.own.frozenAt _, h.own.frozenAt _⟩, h.lt, blk_lt hgb, blk_lt hqb, typ_ne h.blk hgb (by decide), typ_ne h.blk hqb (by decide), typ_ne hgb hqb (by decide), ?_⟩
  · have e := flatC_get rows i 0 _ hi (by omega); rw [h.own.cellAt _ (by omega), show i * 6 = i * 6 + 0 from rfl, e]; rfl
  · rw [h.own.cellAt _ (by omega), flatC_get rows i 1 _ hi (by omega)]; rfl
  · rw [h.own.cellAt _ (by omega), flatC_get rows i 2 _ hi (by omega)]; rfl
  · rw [h.own.cellAt _ (by omega), flatC_get rows i 3 _ hi (by omega)]; rfl
  · rw [h.own.cellAt _ (by omega), flatC_get rows i 4 _ hi (by omega)]; rfl
  · rw [h.own.cellAt _ (by omega), flatC_get rows i 5 _ hi (by omega)]; rfl
  · rcases hown.2 with ⟨e, _⟩ | ⟨g', cap', cur', e, _, _, hm, _, _⟩
    · cases e
    · cases e; exact hm

/-- What taking a cell that was free leaves. -/
theorem Pl.old {w : World} {p m : Nat} {rows : List (Option Nd)} {fs : List Nat} {i lim g cap q capf n nf : Nat} (h : Pl w p m rows (fs ++ [i]) lim (.slice (some ⟨g, 0, none⟩) n cap) (.slice (some ⟨q, 0, none⟩) nf capf)) (hn : n = rows.length) (x : Nd) :
    Pl ((((((((w.setCell ⟨p, 3, none⟩ (.int .i64 ((liveN rows : Int) + 1))).setCell ⟨p, 2, none⟩ (.slice (some ⟨q, 0, none⟩) fs.length capf)).setCell ⟨g, i * 6, none⟩ (.int .u64 x.b)).setCell ⟨g, i * 6 + 1, none⟩ (.slice x.ka x.kn x.kc)).setCell ⟨g, i * 6 + 2, none⟩ (.int .i64 x.n)).setCell ⟨g, i * 6 + 3, none⟩ (.int .u64 x.lo)).setCell ⟨g, i * 6 + 4, none⟩ (.int .u64 x.hi)).setCell ⟨g, i * 6 + 5, none⟩ (.bool true))
      p m (rows.set i (some x)) fs lim (.slice (some ⟨g, 0, none⟩) n cap) (.slice (some ⟨q, 0, none⟩) fs.length capf) ∧
    Fr (fun k => k = p ∨ k = g) w ((((((((w.setCell ⟨p, 3, none⟩ (.int .i64 ((liveN rows : Int) + 1))).setCell ⟨p, 2, none⟩ (.slice (some ⟨q, 0, none⟩) fs.length capf)).setCell ⟨g, i * 6, none⟩ (.int .u64 x.b)).setCell ⟨g, i * 6 + 1, none⟩ (.slice x.ka x.kn x.kc)).setCell ⟨g, i * 6 + 2, none⟩ (.int .i64 x.n)).setCell ⟨g, i * 6 + 3, none⟩ (.int .u64 x.lo)).setCell ⟨g, i * 6 + 4, none⟩ (.int .u64 x.hi)).setCell ⟨g, i * 6 + 5, none⟩ (.bool true)) := by
  subst hn
  have hi : rows[i]? = some none := h.gone i (by simp)
  have hil : i < rows.length := (List.getElem?_eq_some_iff.1 hi).1
  have hown := Kd.own_of_R h.fre
  obtain ⟨cur, hgb⟩ := own_blk h.own g rfl
  obtain ⟨cuf, hqb⟩ := own_blk hown q rfl
  have hpg : p ≠ g := typ_ne h.blk hgb (by decide)
  have hpq : p ≠ q := typ_ne h.blk hqb (by decide)
  have hgq : g ≠ q := typ_ne hgb hqb (by decide)
  have hlv := liveN_set rows i (some x) _ hi
  simp only [Option.isSome_some, if_true, Option.isSome_none, Bool.false_eq_true, if_false] at hlv
  have el : ((liveN rows : Int) + 1) = (liveN (rows.set i (some x)) : Nat) := by omega
  have hF1 : Fr (One p) w ((w.setCell ⟨p, 3, none⟩ (.int .i64 ((liveN rows : Int) + 1))).setCell ⟨p, 2, none⟩ (.slice (some ⟨q, 0, none⟩) fs.length capf)) := ((Fr.refl _ _).set (One.self p) _ _).set (One.self p) _ _
  have hb1 := blk_set (blk_set h.blk 3 (.int .i64 ((liveN rows : Int) + 1))) 2 (.slice (some ⟨q, 0, none⟩) fs.length capf)
  have ho1 := own_fr h.own hF1 (fun k hk => by simp only [Value.ownBlock, Option.some.injEq] at hk; subst hk; exact fun e => hpg e.symm)
  have ho2 := own_set6 ho1 rfl i (some x) _ _ _ _ _ _ rfl hil
  have hF2 := fr_set6 (S := One g) ((w.setCell ⟨p, 3, none⟩ (.int .i64 ((liveN rows : Int) + 1))).setCell ⟨p, 2, none⟩ (.slice (some ⟨q, 0, none⟩) fs.length capf)) g i (One.self g) (.int .u64 x.b) (.slice x.ka x.kn x.kc) (.int .i64 x.n) (.int .u64 x.lo) (.int .u64 x.hi) (.bool true)
  have hFF : Fr (fun k => k = p ∨ k = g) w _ := (hF1.mono (fun k _ h => .inl h)).trans (hF2.mono (fun k _ h => .inr h))
  refine ⟨⟨?_, by rw [oset_size]; exact ho2, ?_, fun j hj => ?_, ?_, ?_, by rw [oset_size]; exact h.fits, h.limB⟩, hFF⟩
  · have e := hF2.blk hb1 (One.ne hpg)
    rw [← el]
    exact e
  · have e := own_fr hown hFF (fun k hk => by simp only [Value.ownBlock, Option.some.injEq] at hk; subst hk; rintro (e | e); exact hpq e.symm; exact hgq e.symm)
    refine Kd.R_of_own ?_ (fun _ _ => trivial)
    obtain ⟨e1, e2⟩ := e
    rcases e2 with ⟨e2, _⟩ | ⟨g', cap', cur', e2, h1, h2, h3, h4, h5, h6⟩
    · cases e2
    · simp only [Value.slice.injEq, Option.some.injEq, Addr.mk.injEq, and_true] at e2
      obtain ⟨⟨rfl, _⟩, e3, rfl⟩ := e2
      rw [intsN_len, List.length_append, List.length_singleton] at h3 h6
      refine ⟨by simp [encs], .inr ⟨q, capf, cur', by rw [intsN_len], h1, h2, by rw [intsN_len]; omega, h4, h5, ?_⟩⟩
      rw [intsN_len, Nat.mul_one]
      rw [Nat.mul_one] at h6
      have : cur'.toList.take fs.length = (cur'.toList.take (fs.length + 1)).take fs.length := by rw [List.take_take, Nat.min_eq_left (by omega)]
      rw [this, h6]
      simp [encs, intsN]
  · have := h.gone j (by simp [hj])
    have hne : i ≠ j := by
      have hd := (List.nodup_append.1 h.nodup).2.2 j hj i (by simp)
      exact fun e => hd e.symm
    rw [List.getElem?_set_ne hne]; exact this
  · exact (List.nodup_append.1 h.nodup).1
  · have := h.cnt
    rw [oset_size]; simp only [List.length_append, List.length_singleton] at this; omega

set_option maxHeartbeats 2000000 in
theorem pl_alloc_old (p m : Nat) (rows : List (Option Nd)) (fs : List Nat) (i : Nat) (lim : Nat) (cv fv : Value) (w : World) (h : Pl w p m rows (fs ++ [i]) lim cv fv) (x : Nd) (hroom : liveN rows + 1 ≤ lim) :
    Calls Tryd.prog 58 #[.pointer (some ⟨p, 0, none⟩), (Value.agg #[Value.int IntKind.u64 (Nd.b x), Value.slice (Nd.ka x) (Nd.kn x) (Nd.kc x), Value.int IntKind.i64 (Nd.n x), Value.int IntKind.u64 (Nd.lo x), Value.int IntKind.u64 (Nd.hi x)])] w fun e w' => ∃ fv', e = .returned (.tuple #[.int .i64 i, .bool true]) ∧ Pl w' p m (rows.set i (some x)) fs lim cv fv' ∧ (∀ q, fv'.ownBlock = some q → fv.ownBlock = some q) ∧ Fr (PS p cv fv) w w' := by
  have hi : rows[i]? = some none := h.gone i (by simp)
  have hil : i < rows.length := (List.getElem?_eq_some_iff.1 hi).1
  obtain ⟨g, cap, rfl, _, hg⟩ := h.own.form (by omega)
  obtain ⟨q, capf, rfl, _, hq⟩ := World.ownsRow.form (Kd.own_of_R h.fre) (by rw [intsN_len]; simp)
  have hnf : (intsN (fs ++ [i])).length = fs.length + 1 := by rw [intsN_len]; simp
  rw [hnf] at h ⊢
  have H := Lib.hid h
  have hb := h.fits
  have hl := h.limB
  have hcn := h.cnt
  have hlim : (liveN rows : Int) ≤ lim := by omega
  have hroom' : decide (liveN rows + 1 ≤ lim) = true := by simp; omega
  have hfl : fs.length ≤ 1048576 := by simp only [List.length_append, List.length_singleton] at hcn; omega
  have hlv := liveN_set rows i (some x) _ hi
  have HI := Lib.hid hi
  have HLV := Lib.hid hlv
  have HCN := Lib.hid hcn
  have HRO := Lib.hid hroom'
  have hpw := h.lt
  clear h hi hlv hcn hroom' hnf
  go_enter Tryd.func58, Tryd.ntmps58
  go_wp2_with (first | (go_at_call 53; refine (pl_room p m rows _ lim _ _ _ (H.out.nw ((Fr.refl _ _).alloc _)) 1 (by decide)).mono ?_; rintro e w1 ⟨rfl, hf⟩; rw [HRO.out]; have hs1 := hf.size; have hb3 := hf.blk (blk_new _ _) (fun h => h); obtain ⟨u0, u1, u2, u3, u4⟩ := nd_cells hb3; have HF := Lib.hid (Fr.trans ((Fr.refl _ _).alloc _) hf); clear hf hb3; have H1 := Lib.hid (H.out.nw HF.out); obtain ⟨⟨c1, c2, c3, d2, d3, hfc⟩, ⟨h0, h1, h2, h3, h4, h5⟩, ⟨f0, f1, f2, f3, f4, f5⟩, hp1, hg1, hq1, hpg, hpq, hgq, hnf⟩ := old_facts H1.out rfl rfl))
  go_region
  go_wp2
  go_returns
  refine ⟨_, rfl, (H1.out.old rfl x).1.nw (((Fr.refl _ _).alloc _).drew), fun k hk => hk, ?_⟩
  exact (HF.out.mono (fun _ _ h => h.elim)).trans ((((H1.out.old rfl x).2.mono (fun k _ h => h.elim (fun e => .inl e) (fun e => .inr (.inl (by rw [e]; rfl))))).alloc _).drew)

end Go.Proofs.YtnhdcefoigmjpaaDoor

/-
  The contracts of the pool of a trie's nodes: a cell that is new.
-/
namespace Go.Proofs.YtnhdcefoigmjpaaDoor
open Go.RowKit Go.Proofs.YtnhdcefoigmjpaaDoorW.PrintWords Go.Proofs.YtnhdcefoigmjpaaDoorW.PrintMore
attribute [local go_sem] max2_int min2_int max_two min_two
set_option linter.unusedVariables false
set_option linter.unusedSimpArgs false

theorem info_cell : (Tryd.prog.info? 108).map (fun i => (i.zero, i.size, i.bytes)) = some (some (.agg #[.int .u64 0, .slice none 0 0, .int .i64 0, .int .u64 0, .int .u64 0, .bool false]), 6, 64) := by kernel_rfl
theorem cellsO_one (o : Option Nd) : ∀ u ∈ cellsO o, u.oneCell' = true := by
  intro u hu
  cases o <;> (simp only [cellsO, List.mem_cons, List.not_mem_nil, or_false] at hu; rcases hu with rfl | rfl | rfl | rfl | rfl | rfl <;> rfl)
theorem empty_form {W : World} {v : Value} (h : Kd.R (Kd.int .i64) 3 W 0 (fun _ => True) v (intsN [])) : ∃ A c, v = .slice A 0 c := by
  have := Kd.own_of_R h
  rcases this.2 with ⟨rfl, _⟩ | ⟨g, cap, cur, rfl, _⟩
  · exact ⟨_, _, rfl⟩
  · exact ⟨_, _, rfl⟩

section
variable {P : Program} {ops : Array Oper} {rest : List Oper} {o : Oper} {a : Act} {Q : Exit → Act → World → Prop} {K : Act → World → Prop}
theorem push_drew {W : World} (H : Nat) (hH : W.heap.size = H) (hw : Region.wanted o (yielded ops a.tmps) = true) (s x : Operand) (t e : TypeId) (z : Value) (size bytes : Nat)
    (ho : o.op = .call { callee := .builtin .append, args := #[s, x], argTypes := #[t, t] })
    (ht : P.underlying t = some (.slice e)) (hinfo : (P.info? e).map (fun i => (i.zero, i.size, i.bytes)) = some (some z, size, bytes)) (hz : z.cells.size = size) (hs0 : 0 < size) (hb0 : 0 < bytes)
    (v : Value) (n : Nat) (xs ys : List Value) (hs : a.eval s = v) (hx : a.eval x = .slice (some ⟨H, 0, none⟩) 1 1) (hys : ys.length = size) (h1 : ∀ u ∈ ys, u.oneCell' = true)
    (HO : W.ownsRow 0 e size v n xs) (hl : (n + 1) * bytes ≤ 140737488355328)
    (h : ∀ v1 w1, w1.ownsRow 0 e size v1 (n + 1) (xs ++ ys) → W.drew.grownBy w1 v.ownBlock → (v1.ownBlock = v.ownBlock ∨ ∃ b, v1.ownBlock = some b ∧ W.heap.size ≤ b) → K (a.put o.dst v1) w1) :
    if Region.wanted o (yielded ops a.tmps) = true then Oper.wp P o a (W.alloc (.cells ys.toArray e)).drew K Q else K (a.put o.dst undef) (W.alloc (.cells ys.toArray e)).drew :=
  push_step (W := W.drew) H hH hw s x t e z size bytes ho ht hinfo hz hs0 hb0 v n xs ys hs hx hys h1 HO hl h
end
abbrev KS (p b : Nat) (cv : Value) (x : Nd) (w' : World) : Prop := w'.cell? ⟨p, 1, none⟩ = some cv ∧ w'.cell? ⟨b, 0, none⟩ = some (.int .u64 x.b) ∧ w'.cell? ⟨b, 1, none⟩ = some (.slice x.ka x.kn x.kc) ∧ w'.cell? ⟨b, 2, none⟩ = some (.int .i64 x.n) ∧ w'.cell? ⟨b, 3, none⟩ = some (.int .u64 x.lo) ∧ w'.cell? ⟨b, 4, none⟩ = some (.int .u64 x.hi) ∧ w'.cell? ⟨b, 5, none⟩ = some (.bool true)
theorem KS.of {S : Nat → Prop} {W3 w' : World} {p b : Nat} {cv : Value} {x : Nd} (N : Fr S W3 w') (hp : ¬ S p) (hb : ¬ S b) (k1 : W3.cell? ⟨p, 1, none⟩ = some cv) (t0 : W3.cell? ⟨b, 0, none⟩ = some (.int .u64 x.b)) (t1 : W3.cell? ⟨b, 1, none⟩ = some (.slice x.ka x.kn x.kc)) (t2 : W3.cell? ⟨b, 2, none⟩ = some (.int .i64 x.n)) (t3 : W3.cell? ⟨b, 3, none⟩ = some (.int .u64 x.lo)) (t4 : W3.cell? ⟨b, 4, none⟩ = some (.int .u64 x.hi)) (t5 : W3.cell? ⟨b, 5, none⟩ = some (.bool true)) : KS p b cv x w' :=
  ⟨N.cell k1 hp, N.cell t0 hb, N.cell t1 hb, N.cell t2 hb, N.cell t3 hb, N.cell t4 hb, N.cell t5 hb⟩

theorem Pl.grew {w w1 W3 w2 : World} {p m : Nat} {rows : List (Option Nd)} {lim g1 cp1 : Nat} {cv fv : Value} {x : Nd} (HP : Pl w1 p m rows [] lim cv fv) (HF : Fr (fun _ => False) w w1)
    (hk1 : W3.heap[p]? = some (.cells (#[.pointer (some ⟨m, 0, none⟩), cv, fv, .int .i64 (liveN rows), .int .i64 lim].setIfInBounds 3 (.int .i64 ((liveN rows : Int) + 1))) 102 (0, 0)))
    (hk2 : Fr (One p) w1 W3) (hg2 : W3.drew.grownBy w2 cv.ownBlock)
    (hR : w2.ownsRow 0 108 6 (.slice (some ⟨g1, 0, none⟩) (rows.length + 1) cp1) (rows.length + 1) (flatC rows ++ cellsO (some x)))
    (hat : (Value.slice (some ⟨g1, 0, none⟩) (rows.length + 1) cp1).ownBlock = cv.ownBlock ∨ ∃ b, (Value.slice (some ⟨g1, 0, none⟩) (rows.length + 1) cp1).ownBlock = some b ∧ W3.heap.size ≤ b) (hroom : liveN rows + 1 ≤ lim) :
    Pl (w2.setCell ⟨p, 1, none⟩ (.slice (some ⟨g1, 0, none⟩) (rows.length + 1) cp1)) p m (rows ++ [some x]) [] lim (.slice (some ⟨g1, 0, none⟩) (rows.length + 1) cp1) fv ∧ Ext w.heap.size cv (.slice (some ⟨g1, 0, none⟩) (rows.length + 1) cp1) ∧ Fr (PS p cv fv) w (w2.setCell ⟨p, 1, none⟩ (.slice (some ⟨g1, 0, none⟩) (rows.length + 1) cp1)) := by
  have hcn : rows.length = liveN rows := by simpa using HP.cnt
  have hcp : cv.ownBlock ≠ some p := fun e => by obtain ⟨_, hc⟩ := own_blk HP.own p e; exact typ_ne hc HP.blk (by decide) rfl
  have hbk := ((Fr.refl _ W3).drew.trans (fr_grown hg2)).blk hk1 hcp
  obtain ⟨_, hgb⟩ := own_blk hR g1 rfl
  have hgp : g1 ≠ p := typ_ne hgb hbk (by decide)
  have hset : Fr (One p) w2 (w2.setCell ⟨p, 1, none⟩ (.slice (some ⟨g1, 0, none⟩) (rows.length + 1) cp1)) := (Fr.refl _ _).set (One.self p) _ _
  have hF3 : Fr (PS p cv fv) w1 w2 := (hk2.mono (fun k _ h => Or.inl h)).trans ((Fr.refl _ _).drew.trans ((fr_grown hg2).mono (fun k _ h => .inr (.inl h))))
  have hfv : ∀ q, fv.ownBlock = some q → ¬ (q = p ∨ cv.ownBlock = some q) := fun q hq => by
    obtain ⟨_, hc⟩ := own_blk (Kd.own_of_R HP.fre) q hq
    rintro (e | e)
    · exact typ_ne hc HP.blk (by decide) e
    · obtain ⟨_, hd⟩ := own_blk HP.own q e
      exact typ_ne hc hd (by decide) rfl
  have hF4 : Fr (fun k => k = p ∨ cv.ownBlock = some k) w1 w2 := (hk2.mono (fun k _ h => Or.inl h)).trans ((Fr.refl _ _).drew.trans ((fr_grown hg2).mono (fun k _ h => .inr h)))
  refine ⟨⟨?_, ?_, ?_, by simp, by simp, ?_, ?_, HP.limB⟩, ?_, ((HF.mono (fun _ _ h => h.elim)).trans hF3).trans (hset.mono (fun k _ h => .inl h))⟩
  · have e := blk_set hbk 1 (.slice (some ⟨g1, 0, none⟩) (rows.length + 1) cp1)
    have el : ((liveN rows : Int) + 1) = (liveN (rows ++ [some x]) : Nat) := by simp [liveN]
    rw [el] at e
    exact e
  · have e := own_fr hR hset (fun q hq => by simp only [Value.ownBlock, Option.some.injEq] at hq; subst hq; exact One.ne hgp)
    have e2 : flatC rows ++ cellsO (some x) = flatC (rows ++ [some x]) := by simp [flatC]
    rw [List.length_append, List.length_singleton, ← e2]
    exact e
  · exact R_fr HP.fre (hF4.trans (hset.mono (fun k _ h => .inl h))) hfv
  · simp only [List.length_append, List.length_singleton, List.length_nil, liveN, List.countP_append] at hcn ⊢; simp; omega
  · simp only [List.length_append, List.length_singleton]; omega
  · exact ext_of (W := W3) (by have := HF.size; have := hk2.size; omega) hat

set_option maxHeartbeats 2000000 in
theorem pl_alloc_new (p m : Nat) (rows : List (Option Nd)) (lim : Nat) (cv fv : Value) (w : World) (h : Pl w p m rows [] lim cv fv) (x : Nd) (hroom : liveN rows + 1 ≤ lim) :
    Calls Tryd.prog 58 #[.pointer (some ⟨p, 0, none⟩), (Value.agg #[Value.int IntKind.u64 (Nd.b x), Value.slice (Nd.ka x) (Nd.kn x) (Nd.kc x), Value.int IntKind.i64 (Nd.n x), Value.int IntKind.u64 (Nd.lo x), Value.int IntKind.u64 (Nd.hi x)])] w fun e w' => ∃ cv', e = .returned (.tuple #[.int .i64 rows.length, .bool true]) ∧ Pl w' p m (rows ++ [some x]) [] lim cv' fv ∧ Ext w.heap.size cv cv' ∧ Fr (PS p cv fv) w w' := by
  obtain ⟨FA, fc, rfl⟩ := empty_form h.fre
  have H := Lib.hid h
  have hl := h.limB
  have hcn : rows.length = liveN rows := by simpa using h.cnt
  have hlim : (liveN rows : Int) ≤ lim := by omega
  have HRO : Hid (decide (liveN rows + 1 ≤ lim) = true) := Lib.hid (by simp; omega)
  have hpw := h.lt
  have HBY : Hid ((rows.length + 1) * 64 ≤ 140737488355328) := Lib.hid (by omega)
  have HWR : Hid (wrap64 (rows.length : Int) = (rows.length : Int)) := Lib.hid (by have := HBY.out; unfold wrap64; omega)
  have HCN := Lib.hid hcn
  clear h hcn
  go_enter Tryd.func58, Tryd.ntmps58
  go_wp2_with (first | (go_at_call 53; refine (pl_room p m rows _ lim _ _ _ (H.out.nw ((Fr.refl _ _).alloc _)) 1 (by decide)).mono ?_; rintro e w1 ⟨rfl, hf⟩; rw [HRO.out]; have hs1 := hf.size; have hb3 := hf.blk (blk_new _ _) (fun h => h); obtain ⟨u0, u1, u2, u3, u4⟩ := nd_cells hb3; have HF := Lib.hid (Fr.trans ((Fr.refl _ _).alloc _) hf); clear hf hb3; have H1 := Lib.hid (H.out.nw HF.out); have c1 : w1.cell? ⟨p, 1, none⟩ = some cv := blk_cell H1.out.blk 1; have c2 : w1.cell? ⟨p, 2, none⟩ = some (.slice FA 0 fc) := blk_cell H1.out.blk 2; have c3 : w1.cell? ⟨p, 3, none⟩ = some (.int .i64 (liveN rows)) := blk_cell H1.out.blk 3; have d1 := blk_frozen H1.out.blk 1; have d3 := blk_frozen H1.out.blk 3; have hp1 := H1.out.lt))
  have hk1 := blk_alloc (blk_set H1.out.blk 3 (.int .i64 ((liveN rows : Int) + 1))) (.cells #[.int .u64 x.b, .slice x.ka x.kn x.kc, .int .i64 x.n, .int .u64 x.lo, .int .u64 x.hi, .bool true] 108)
  have hk2 : Fr (One p) w1 ((w1.setCell ⟨p, 3, none⟩ (.int .i64 ((liveN rows : Int) + 1))).alloc (.cells #[.int .u64 x.b, .slice x.ka x.kn x.kc, .int .i64 x.n, .int .u64 x.lo, .int .u64 x.hi, .bool true] 108)) := ((Fr.refl _ _).set (One.self p) _ _).alloc _
  have hk3 := blk_new (w1.setCell ⟨p, 3, none⟩ (.int .i64 ((liveN rows : Int) + 1))) (.cells #[.int .u64 x.b, .slice x.ka x.kn x.kc, .int .i64 x.n, .int .u64 x.lo, .int .u64 x.hi, .bool true] 108)
  have hk4 : ((w1.setCell ⟨p, 3, none⟩ (.int .i64 ((liveN rows : Int) + 1))).alloc (.cells #[.int .u64 x.b, .slice x.ka x.kn x.kc, .int .i64 x.n, .int .u64 x.lo, .int .u64 x.hi, .bool true] 108)).heap.size = w1.heap.size + 1 := by simp
  have hk5 : (w1.setCell ⟨p, 3, none⟩ (.int .i64 ((liveN rows : Int) + 1))).heap.size = w1.heap.size := by simp
  rw [hk5] at hk3
  generalize ((w1.setCell ⟨p, 3, none⟩ (.int .i64 ((liveN rows : Int) + 1))).alloc (.cells #[.int .u64 x.b, .slice x.ka x.kn x.kc, .int .i64 x.n, .int .u64 x.lo, .int .u64 x.hi, .bool true] 108)) = W3 at hk1 hk2 hk3 hk4 ⊢
  have k1 : W3.cell? ⟨p, 1, none⟩ = some cv := blk_cell hk1 1
  have k2 := blk_frozen hk1 1
  have t0 : W3.cell? ⟨w1.heap.size, 0, none⟩ = some (.int .u64 x.b) := blk_cell hk3 0
  have t1 : W3.cell? ⟨w1.heap.size, 1, none⟩ = some (.slice x.ka x.kn x.kc) := blk_cell hk3 1
  have t2 : W3.cell? ⟨w1.heap.size, 2, none⟩ = some (.int .i64 x.n) := blk_cell hk3 2
  have t3 : W3.cell? ⟨w1.heap.size, 3, none⟩ = some (.int .u64 x.lo) := blk_cell hk3 3
  have t4 : W3.cell? ⟨w1.heap.size, 4, none⟩ = some (.int .u64 x.hi) := blk_cell hk3 4
  have t5 : W3.cell? ⟨w1.heap.size, 5, none⟩ = some (.bool true) := blk_cell hk3 5
  have HK1 := Lib.hid hk1
  have HK2 := Lib.hid hk2
  have HK4 := Lib.hid hk4
  have HCB : Hid (¬ cv.ownBlock = some w1.heap.size) := Lib.hid (fun e => absurd (H1.out.own.lt _ e).2 (Nat.lt_irrefl _))
  have HCV : Hid (∀ q, cv.ownBlock = some q → ¬ One p q) := Lib.hid (fun q hq e => by obtain ⟨_, hc⟩ := own_blk H1.out.own q hq; exact typ_ne hc H1.out.blk (by decide) e)
  clear hk1 hk2 hk3 hk5 c1 c2 c3 d1 d3 u0 u1 u2 u3 u4
  go_region_law
    ((refine push_drew (w1.heap.size + 1) (by exact HK4.out) (by rfl) (.tmp 58) (.tmp 60) 100 108 _ 6 64 (by rfl) Tryd.underlying100 info_cell rfl (by decide) (by decide) cv rows.length (flatC rows) (cellsO (some x)) (by rfl) (by rfl) rfl (cellsO_one _) (by exact own_fr H1.out.own HK2.out HCV.out) (by exact HBY.out) ?_; intro v1 w2 hR2 hg2 hat2; obtain ⟨g1, cp1, rfl, _, _⟩ := World.ownsRow.form hR2 (Nat.succ_pos _); have hbk := ((Fr.refl _ W3).drew.trans (fr_grown hg2)).blk HK1.out (fun e => HCV.out p e rfl); have e1 := blk_cell hbk 1; have e2 := blk_frozen hbk 1; have HBK := Lib.hid hbk; have HR2 := Lib.hid hR2; have HA2 := Lib.hid hat2; clear hbk hR2 hat2))
  all_goals go_wp2
  all_goals go_returns
  all_goals (refine ⟨_, ?_, (H1.out.grew HF.out HK1.out HK2.out hg2 HR2.out HA2.out hroom).1, (H1.out.grew HF.out HK1.out HK2.out hg2 HR2.out HA2.out hroom).2.1, (H1.out.grew HF.out HK1.out HK2.out hg2 HR2.out HA2.out hroom).2.2⟩; first | rfl | (show Ending.returned (.tuple #[.int .i64 (wrap64 (rows.length : Int)), .bool true]) = _; rw [HWR.out]))


/-- Where the next node comes to stand: the place that was freed last, or behind all. -/
def nxt (rows : List (Option Nd)) (free : List Nat) : Nat := (free.getLast?).getD rows.length
def putAt (rows : List (Option Nd)) (free : List Nat) (x : Nd) : List (Option Nd) := if free = [] then rows ++ [some x] else rows.set (nxt rows free) (some x)
theorem pl_alloc (p m : Nat) (rows : List (Option Nd)) (free : List Nat) (lim : Nat) (cv fv : Value) (w : World) (h : Pl w p m rows free lim cv fv) (x : Nd) (hroom : liveN rows + 1 ≤ lim) :
    Calls Tryd.prog 58 #[.pointer (some ⟨p, 0, none⟩), (Value.agg #[Value.int IntKind.u64 (Nd.b x), Value.slice (Nd.ka x) (Nd.kn x) (Nd.kc x), Value.int IntKind.i64 (Nd.n x), Value.int IntKind.u64 (Nd.lo x), Value.int IntKind.u64 (Nd.hi x)])] w fun e w' => ∃ cv' fv', e = .returned (.tuple #[.int .i64 (nxt rows free), .bool true]) ∧ Pl w' p m (putAt rows free x) free.dropLast lim cv' fv' ∧ Ext w.heap.size cv cv' ∧ Ext w.heap.size fv fv' ∧ Fr (PS p cv fv) w w' := by
  rcases List.eq_nil_or_concat free with rfl | ⟨fs, i, rfl⟩
  · refine (pl_alloc_new p m rows lim cv fv w h x hroom).mono ?_
    rintro e w' ⟨cv', rfl, h1, h2, h3⟩
    exact ⟨cv', fv, rfl, by simpa [putAt] using h1, h2, Ext.refl _ _, h3⟩
  · rw [List.concat_eq_append] at h ⊢
    refine (pl_alloc_old p m rows fs i lim cv fv w h x hroom).mono ?_
    rintro e w' ⟨fv', rfl, h1, h2, h3⟩
    exact ⟨cv, fv', by simp [nxt], by simpa [putAt, nxt] using h1, Ext.refl _ _, fun q hq => .inl (h2 q hq), h3⟩

end Go.Proofs.YtnhdcefoigmjpaaDoor

