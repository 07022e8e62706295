/-
  strip's word, joined, Or, And: over a row of pointers to strips.
-/
import Derived.Lib.JoinLaws
import Derived.Deep.RegionHeld3
import Derived.Test.YtacaeahijecfeaaDoorStripEq
namespace Go.Proofs.YtacaeahijecfeaaDoor
open Go.RowKit Go.Shelf Go.Proofs.YtacaeahijecfeaaDoorW.PrintWords Go.Proofs.YtacaeahijecfeaaDoorW.PrintMore
set_option linter.unusedVariables false
set_option linter.unusedSimpArgs false

/-! ### plain facts -/
def orL (l : List Nat) : Nat := l.foldl (· ||| ·) 0
def andL (n : Nat) (l : List Nat) : Nat := l.foldl (· &&& ·) (2 ^ (64 * n) - 1)
def joinL (all : Bool) (n : Nat) (l : List Nat) : Nat := if all then andL n l else orL l
theorem word_or2 (a b k : Nat) : wordN (a ||| b) k = wordN a k ||| wordN b k := by
  apply Nat.eq_of_testBit_eq; intro j
  simp only [tb_wordN, Nat.testBit_or]
  cases decide (j < 64) <;> simp
theorem word_and2 (a b k : Nat) : wordN (a &&& b) k = wordN a k &&& wordN b k := by
  apply Nat.eq_of_testBit_eq; intro j
  simp only [tb_wordN, Nat.testBit_and]
  cases decide (j < 64) <;> simp
theorem word_ones (n k : Nat) (h : k < n) : wordN (2 ^ (64 * n) - 1) k = 18446744073709551615 := by
  apply Nat.eq_of_testBit_eq; intro j
  rw [tb_wordN, Nat.testBit_two_pow_sub_one, show (18446744073709551615 : Nat) = 2 ^ 64 - 1 by decide, Nat.testBit_two_pow_sub_one]
  by_cases hj : j < 64
  · simp [hj]; omega
  · simp [hj]
theorem word_orL (l : List Nat) (k : Nat) : wordN (orL l) k = anyN (l.map fun B => (wordN B k : Int)) := by
  suffices h : ∀ (l : List Nat) (a : Nat), wordN (l.foldl (· ||| ·) a) k = (l.map fun B => (wordN B k : Int)).foldl (fun w (x : Int) => w ||| x.toNat) (wordN a k) by
    have := h l 0
    rw [show wordN 0 k = 0 by simp [wordN]] at this
    exact this
  intro l
  induction l with
  | nil => intro a; rfl
  | cons x xs ih => intro a; simp only [List.foldl_cons, List.map_cons, ih, word_or2, Int.toNat_natCast]
theorem word_andL (n : Nat) (l : List Nat) (k : Nat) (hk : k < n) : wordN (andL n l) k = allN (l.map fun B => (wordN B k : Int)) := by
  suffices h : ∀ (l : List Nat) (a : Nat), wordN (l.foldl (· &&& ·) a) k = (l.map fun B => (wordN B k : Int)).foldl (fun w (x : Int) => w &&& x.toNat) (wordN a k) by
    have := h l (2 ^ (64 * n) - 1)
    rw [word_ones n k hk] at this
    exact this
  intro l
  induction l with
  | nil => intro a; rfl
  | cons x xs ih => intro a; simp only [List.foldl_cons, List.map_cons, ih, word_and2, Int.toNat_natCast]
theorem orL_tb (l : List Nat) (i : Nat) : (orL l).testBit i = l.any (·.testBit i) := by
  suffices h : ∀ (l : List Nat) (a : Nat), (l.foldl (· ||| ·) a).testBit i = (a.testBit i || l.any (·.testBit i)) by
    have := h l 0
    rw [Nat.zero_testBit, Bool.false_or] at this
    exact this
  intro l
  induction l with
  | nil => intro a; simp
  | cons x xs ih => intro a; simp only [List.foldl_cons, List.any_cons, ih, Nat.testBit_or, Bool.or_assoc]
theorem andL_tb (n : Nat) (l : List Nat) (i : Nat) : (andL n l).testBit i = (decide (i < 64 * n) && l.all (·.testBit i)) := by
  suffices h : ∀ (l : List Nat) (a : Nat), (l.foldl (· &&& ·) a).testBit i = (a.testBit i && l.all (·.testBit i)) by
    have := h l (2 ^ (64 * n) - 1)
    rw [Nat.testBit_two_pow_sub_one] at this
    exact this
  intro l
  induction l with
  | nil => intro a; simp
  | cons x xs ih => intro a; simp only [List.foldl_cons, List.all_cons, ih, Nat.testBit_and, Bool.and_assoc]
theorem orL_lt {n : Nat} {l : List Nat} (h : ∀ B, B ∈ l → B < 2 ^ (64 * n)) : orL l < 2 ^ (64 * n) := by
  apply lt_of_tb; intro j hj
  rw [orL_tb, List.any_eq_false]
  intro B hB
  simp [big_tb (h B hB) hj]
theorem andL_lt (n : Nat) (l : List Nat) : andL n l < 2 ^ (64 * n) := by
  apply lt_of_tb; intro j hj
  rw [andL_tb, decide_eq_false (by omega), Bool.false_and]
theorem joinL_lt (all : Bool) {n : Nat} {l : List Nat} (h : ∀ B, B ∈ l → B < 2 ^ (64 * n)) : joinL all n l < 2 ^ (64 * n) := by
  unfold joinL; split
  · exact andL_lt n l
  · exact orL_lt h

/-! ### make([]T, 0, c) in a walk -/
theorem make_room {P : Program} (w : World) {ops : Array Oper} {rest : List Oper} {o : Oper} {a : Act} {Q : Exit → Act → World → Prop}
    (hg : o.guard = none) {N : Tmp} (hd : o.dst = some N) (t : TypeId) (x y : Operand) (ho : o.op = .makeSlice t x y) (c : Nat) (hx : a.eval x = .int .i64 0) (hy : a.eval y = .int .i64 c)
    (e : TypeId) (z : Value) (bytes : Nat) (ht : P.underlying t = some (.slice e)) (hinfo : (P.info? e).map (fun i => (i.zero, i.size, i.bytes)) = some (some z, 1, bytes)) (hz1 : z.cells = #[z])
    (hbytes : bytes * c ≤ 281474976710656) (h63 : c ≤ 9223372036854775807)
    (hK : wpList P ops Q rest (a.put o.dst (.slice (some ⟨w.heap.size, 0, none⟩) 0 c)) (w.alloc (.cells (madeCells #[z] c) e))) :
    wpList P ops Q (o :: rest) a w := by
  refine wpList_plain hg fun K hK' => ?_
  have hrun := run_make_room (P := P) t e z bytes ht hinfo hz1 .i64 .i64 c hbytes h63 w
  unfold Oper.wp
  simp [execOp, ho, hx, hy, hrun, Result.andThen]
  exact hK' _ _ hK

/-- A row of pointers to strips of n words. -/
def PR (W : World) (g n : Nat) (ps : List (Nat × Nat × Nat)) : Prop :=
  ∀ k (h : k < ps.length), W.cell? ⟨g, k, none⟩ = some (.pointer (some ⟨ps[k].1, 0, none⟩)) ∧ St W ps[k].1 ps[k].2.1 n ps[k].2.2
theorem PR.nw {W W1 : World} {g n : Nat} {ps : List (Nat × Nat × Nat)} (h : PR W g n ps) (hf : Nw W W1) : PR W1 g n ps :=
  fun k hk => ⟨hf.cell (h k hk).1 (fun h => h), (h k hk).2.nw hf (fun h => h) (fun h => h)⟩

set_option maxRecDepth 100000 in
set_option maxHeartbeats 2000000 in
theorem word_calls (g c n k : Nat) (ps : List (Nat × Nat × Nat)) (w : World) (h : PR w g n ps) (hk : k < n) (hl : ps.length ≤ 1000) :
    Calls Tryd.prog 65 #[.slice (some ⟨g, 0, none⟩) ps.length c, .int .i64 k] w fun e w' => ∃ v, e = .returned v ∧ Kd.R (Kd.int .u64) 48 w' w.heap.size (fun _ => True) v (ps.map fun x => (wordN x.2.2 k : Int)) ∧ Below w.heap.size w w' := by
  have HP := Lib.hid h
  have hk2 : (k : Int) < n := by omega
  have H0 : Hid (Kd.R (Kd.int .u64) 48 (w.alloc (.cells (madeCells #[.int .u64 0] ps.length) 48)) w.heap.size (fun _ => True) (.slice (some ⟨w.heap.size, 0, none⟩) 0 ps.length) []) :=
    Lib.hid (Kd.R_of_own (World.ownsRow_made w (madeCells #[.int .u64 0] ps.length) ps.length (base := w.heap.size) (e := 48) (size := 1) (Nat.le_refl _) (by simp [maxLen]; omega) (by rw [size_madeCells, Nat.mul_one])) (fun _ _ => trivial))
  obtain ⟨ms, hms⟩ : ∃ ms, ms = ps.map fun x => (wordN x.2.2 k : Int) := ⟨_, rfl⟩
  rw [← hms]
  have HM := Lib.hid hms
  clear h hms
  go_enter Tryd.func65, Tryd.ntmps65
  go_wp2_with (refine make_room w rfl rfl 36 (.const (.int .i64 0)) (.tmp 9) rfl ps.length rfl rfl 48 (.int .u64 0) 8 Tryd.underlying36 info_u64 rfl (by omega) (by omega) ?_)
  have HB0 : Hid (Below w.heap.size w (w.alloc (.cells (madeCells #[.int .u64 0] ps.length) 48))) := Lib.hid ((Below.refl _ _).alloc (Nat.le_refl _) _)
  go_loopw [5, 7, 13] (fun out _ ii wr => ∃ j : Nat, j ≤ ps.length ∧ ii = .int .i64 j ∧ Hid (Kd.R (Kd.int .u64) 48 wr w.heap.size (fun _ => True) out (ms.take j)) ∧ Hid (Below w.heap.size w wr)) (fun _ _ ii _ => ps.length - (intOf ii).toNat)
  case atStart => exact ⟨0, Nat.zero_le _, rfl, H0, HB0⟩
  case round =>
    obtain ⟨j, hj, rfl, HO, HB⟩ := hrel
    by_cases hlt : j < ps.length
    · obtain ⟨c1, hS⟩ := (HP.out.nw (Fr.of_below HB.out)) j hlt
      obtain ⟨cc, c2, c3, _⟩ := hS.word hk
      have hml : ms.length = ps.length := by rw [HM.out, List.length_map]
      have hx : ms[j]'(by omega) = (wordN ps[j].2.2 k : Int) := by simp only [HM.out, List.getElem_map]
      have HT : Hid (ms.take (j + 1) = ms.take j ++ [ms[j]'(by omega)]) := Lib.hid (List.take_succ_eq_append_getElem _)
      rw [← hx] at c3
      obtain ⟨x, hx'⟩ : ∃ x, x = ms[j]'(by omega) := ⟨_, rfl⟩
      rw [← hx'] at c3 HT
      obtain ⟨xs, hxs⟩ : ∃ xs, xs = ms.take j := ⟨_, rfl⟩
      have hxl : xs.length = j := by rw [hxs, List.length_take]; omega
      rw [← hxs] at HO HT
      obtain ⟨p, hp⟩ : ∃ p, p = ps[j].1 := ⟨_, rfl⟩
      obtain ⟨q, hq⟩ : ∃ p, p = ps[j].2.1 := ⟨_, rfl⟩
      rw [← hp] at c1 c2
      rw [← hq] at c2 c3
      have HXl := Lib.hid hxl
      have hxl2 : xs.length ≤ 1000 := by omega
      clear hS hx hx' hxs hp hq hxl hml
      go_wp2_with (first | (at_builtin; refine Kd.R_append (Kd.int .u64) (w0 := w) w.heap.size rfl (.tmp 17) (.tmp 25) 36 48 (.int .u64 0) 8 rfl Tryd.underlying36 info_u64 rfl (by decide) (by omega) _ xs x [.int .u64 x] (fun _ => True) (fun _ => False) rfl rfl rfl (fun _ hk => hk.elim) (fun _ _ => trivial) HO.out HB.out HB.out.size (by omega) ?_; intro v1 w1 ho hb hg hat; have HO1 := Lib.hid ho; have HB1 := Lib.hid hb; clear ho hb hg hat))
      go_roundw
      case rel => exact ⟨j + 1, by omega, by go_num, Lib.hid (by rw [HT.out]; exact HO1.out), HB1⟩
      case measure => simp [intOf]; omega
    · have hE : ms.take j = ms := List.take_of_length_le (by rw [HM.out, List.length_map]; omega)
      rw [hE] at HO
      clear hE
      go_wp2
      go_ret
      exact ⟨_, rfl, HO.out, HB.out⟩

end Go.Proofs.YtacaeahijecfeaaDoor
