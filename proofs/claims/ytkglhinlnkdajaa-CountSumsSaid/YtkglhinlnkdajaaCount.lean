/-
  The contracts of package count over this translation.
-/
import Derived.Test.YtkglhinlnkdajaaProg
import Derived.Test.YtkglhinlnkdajaaFr
import Derived.RegionTactic
import Derived.BigQuiet
import Derived.BigRegion
import Derived.Deep.QuietTactic
namespace Go.Proofs.Ytkglhinlnkdajaa
open Go.RowKit

/-- Block b is a meter: reads, calls, taken, peak, starts. -/
def Mt (W : World) (b : Nat) (r c t p s : Int) : Prop :=
  W.heap[b]? = some (.cells #[.int .i64 r, .int .i64 c, .int .i64 t, .int .i64 p, .int .i64 s] 37 (0, 0))

theorem Mt.cell0 {W : World} {b : Nat} {r c t p s : Int} (h : Mt W b r c t p s) : W.cell? ⟨b, 0, none⟩ = some (.int .i64 r) := (blk_cell h 0).trans rfl
theorem Mt.cell1 {W : World} {b : Nat} {r c t p s : Int} (h : Mt W b r c t p s) : W.cell? ⟨b, 1, none⟩ = some (.int .i64 c) := (blk_cell h 1).trans rfl
theorem Mt.cell2 {W : World} {b : Nat} {r c t p s : Int} (h : Mt W b r c t p s) : W.cell? ⟨b, 2, none⟩ = some (.int .i64 t) := (blk_cell h 2).trans rfl
theorem Mt.cell3 {W : World} {b : Nat} {r c t p s : Int} (h : Mt W b r c t p s) : W.cell? ⟨b, 3, none⟩ = some (.int .i64 p) := (blk_cell h 3).trans rfl
theorem Mt.cell4 {W : World} {b : Nat} {r c t p s : Int} (h : Mt W b r c t p s) : W.cell? ⟨b, 4, none⟩ = some (.int .i64 s) := (blk_cell h 4).trans rfl
theorem Mt.fr {W : World} {b : Nat} {r c t p s : Int} (h : Mt W b r c t p s) (i : Nat) : W.frozen? ⟨b, i, none⟩ = false := blk_frozen h i
theorem Mt.set0 {W : World} {b : Nat} {r c t p s : Int} (h : Mt W b r c t p s) (x : Int) : Mt (W.setCell ⟨b, 0, none⟩ (.int .i64 x)) b x c t p s := blk_set h 0 _
theorem Mt.set1 {W : World} {b : Nat} {r c t p s : Int} (h : Mt W b r c t p s) (x : Int) : Mt (W.setCell ⟨b, 1, none⟩ (.int .i64 x)) b r x t p s := blk_set h 1 _
theorem Mt.set2 {W : World} {b : Nat} {r c t p s : Int} (h : Mt W b r c t p s) (x : Int) : Mt (W.setCell ⟨b, 2, none⟩ (.int .i64 x)) b r c x p s := blk_set h 2 _
theorem Mt.set3 {W : World} {b : Nat} {r c t p s : Int} (h : Mt W b r c t p s) (x : Int) : Mt (W.setCell ⟨b, 3, none⟩ (.int .i64 x)) b r c t x s := blk_set h 3 _
theorem Mt.set4 {W : World} {b : Nat} {r c t p s : Int} (h : Mt W b r c t p s) (x : Int) : Mt (W.setCell ⟨b, 4, none⟩ (.int .i64 x)) b r c t p x := blk_set h 4 _
theorem Mt.drew {W : World} {b : Nat} {r c t p s : Int} (h : Mt W b r c t p s) : Mt W.drew b r c t p s := h
theorem Mt.kept {W W1 : World} {b : Nat} {r c t p s : Int} (h : Mt W b r c t p s) {S : Nat → Prop} (hf : Fr S W W1) (hs : ¬ S b) : Mt W1 b r c t p s := hf.blk h hs

set_option maxHeartbeats 400000 in
theorem start_calls (b : Nat) (r c t p s : Int) (w : World) (h : Mt w b r c t p s) (h1 : 0 ≤ s) (h2 : s ≤ 1000000000000) :
    Calls Try.prog 17 #[.pointer (some ⟨b, 0, none⟩)] w fun e w' => e = .returned (.tuple #[]) ∧ Mt w' b r c 0 p (s + 1) ∧ Fr (One b) w w' := by
  have H := Lib.hid h
  have c2 := h.cell2
  have c4 := h.cell4
  have f2 := h.fr 2
  have f4 := h.fr 4
  clear h
  go_enter Try.func17, Try.ntmps17
  go_wp2
  go_end0
  exact ⟨rfl, (H.out.set2 0).set4 _, ((Fr.refl _ _).set (One.self b) _ _).set (One.self b) _ _⟩

set_option maxHeartbeats 400000 in
theorem start_nil (w : World) :
    Calls Try.prog 17 #[.pointer none] w fun e w' => e = .returned (.tuple #[]) ∧ w = w' := by
  go_enter Try.func17, Try.ntmps17
  go_wp2
  go_end0
  exact ⟨rfl, rfl⟩

theorem mx_if (a b : Int) : (if a < b then b else a) = max a b := by rw [Int.max_def]; split <;> split <;> omega

set_option maxHeartbeats 1000000 in
theorem step_calls (b : Nat) (r c t p s : Int) (w : World) (h : Mt w b r c t p s) (h1 : 0 ≤ t) (h2 : t ≤ 1000000000000) :
    Calls Try.prog 24 #[.pointer (some ⟨b, 0, none⟩)] w fun e w' => e = .returned (.tuple #[]) ∧ Mt w' b r c (t + 1) (max p (t + 1)) s ∧ Fr (One b) w w' := by
  have H := Lib.hid h
  have c2 := h.cell2
  have c3 := h.cell3
  have f2 := h.fr 2
  have f3 := h.fr 3
  clear h
  go_enter Try.func24, Try.ntmps24
  go_wp2
  go_region
  go_end0
  rw [mx_if]
  exact ⟨rfl, ((H.out.set2 _).set3 _).drew, (((Fr.refl _ _).set (One.self b) _ _).set (One.self b) _ _).drew⟩

set_option maxHeartbeats 1000000 in
theorem read_calls (b : Nat) (r c t p s : Int) (w : World) (h : Mt w b r c t p s) (h1 : 0 ≤ t) (h2 : t ≤ 1000000000000) (h3 : 0 ≤ r) (h4 : r ≤ 1000000000000) :
    Calls Try.prog 18 #[.pointer (some ⟨b, 0, none⟩)] w fun e w' => e = .returned (.tuple #[]) ∧ Mt w' b (r + 1) c (t + 1) (max p (t + 1)) s ∧ Fr (One b) w w' := by
  have H := Lib.hid h
  have c0 := h.cell0
  have f0 := h.fr 0
  clear h
  go_enter Try.func18, Try.ntmps18
  go_wp2_with (go_at_call 24; refine (step_calls b (r + 1) c t p s _ (H.out.set0 _) h1 h2).mono ?_; rintro e w' ⟨rfl, hm, hf⟩; have HM := Lib.hid hm; have HF := Lib.hid hf; clear hm hf)
  go_end0
  exact ⟨rfl, HM.out, ((Fr.refl _ _).set (One.self b) _ _).trans HF.out⟩

set_option maxHeartbeats 1000000 in
theorem call_calls (b : Nat) (r c t p s : Int) (w : World) (h : Mt w b r c t p s) (h1 : 0 ≤ t) (h2 : t ≤ 1000000000000) (h3 : 0 ≤ c) (h4 : c ≤ 1000000000000) :
    Calls Try.prog 19 #[.pointer (some ⟨b, 0, none⟩)] w fun e w' => e = .returned (.tuple #[]) ∧ Mt w' b r (c + 1) (t + 1) (max p (t + 1)) s ∧ Fr (One b) w w' := by
  have H := Lib.hid h
  have c0 := h.cell1
  have f0 := h.fr 1
  clear h
  go_enter Try.func19, Try.ntmps19
  go_wp2_with (go_at_call 24; refine (step_calls b r (c + 1) t p s _ (H.out.set1 _) h1 h2).mono ?_; rintro e w' ⟨rfl, hm, hf⟩; have HM := Lib.hid hm; have HF := Lib.hid hf; clear hm hf)
  go_end0
  exact ⟨rfl, HM.out, ((Fr.refl _ _).set (One.self b) _ _).trans HF.out⟩

set_option maxHeartbeats 400000 in
theorem read_nil (w : World) :
    Calls Try.prog 18 #[.pointer none] w fun e w' => e = .returned (.tuple #[]) ∧ w = w' := by
  go_enter Try.func18, Try.ntmps18
  go_wp2
  go_end0
  exact ⟨rfl, rfl⟩
set_option maxHeartbeats 400000 in
theorem call_nil (w : World) :
    Calls Try.prog 19 #[.pointer none] w fun e w' => e = .returned (.tuple #[]) ∧ w = w' := by
  go_enter Try.func19, Try.ntmps19
  go_wp2
  go_end0
  exact ⟨rfl, rfl⟩

set_option maxHeartbeats 400000 in
theorem see_calls (b : Nat) (r c t p s : Int) (w : World) (h : Mt w b r c t p s) :
    Calls Try.prog 23 #[.pointer (some ⟨b, 0, none⟩)] w fun e w' => e = .returned (.agg #[.int .i64 r, .int .i64 c, .int .i64 t, .int .i64 p, .int .i64 s]) ∧ Nw w w' := by
  have c0 := h.cell0
  have c1 := h.cell1
  have c2 := h.cell2
  have c3 := h.cell3
  have c4 := h.cell4
  have hb := blk_lt h
  clear h
  go_enter Try.func23, Try.ntmps23
  go_wp2
  go_returns
  exact ⟨rfl, (Fr.refl _ _).alloc _⟩

set_option maxHeartbeats 400000 in
theorem see_nil (w : World) :
    Calls Try.prog 23 #[.pointer none] w fun e w' => e = .returned (.agg #[.int .i64 0, .int .i64 0, .int .i64 0, .int .i64 0, .int .i64 0]) ∧ Nw w w' := by
  go_enter Try.func23, Try.ntmps23
  go_wp2
  go_returns
  exact ⟨rfl, (Fr.refl _ _).alloc _⟩

theorem fld0 (r c t p s : Int) (w : World) : (Instr.field 37 (.agg #[.int .i64 r, .int .i64 c, .int .i64 t, .int .i64 p, .int .i64 s]) 0).run Try.prog w = .ok (.int .i64 r) w := by kernel_rfl
theorem fld1 (r c t p s : Int) (w : World) : (Instr.field 37 (.agg #[.int .i64 r, .int .i64 c, .int .i64 t, .int .i64 p, .int .i64 s]) 1).run Try.prog w = .ok (.int .i64 c) w := by kernel_rfl
theorem fld2 (r c t p s : Int) (w : World) : (Instr.field 37 (.agg #[.int .i64 r, .int .i64 c, .int .i64 t, .int .i64 p, .int .i64 s]) 2).run Try.prog w = .ok (.int .i64 t) w := by kernel_rfl
theorem fld3 (r c t p s : Int) (w : World) : (Instr.field 37 (.agg #[.int .i64 r, .int .i64 c, .int .i64 t, .int .i64 p, .int .i64 s]) 3).run Try.prog w = .ok (.int .i64 p) w := by kernel_rfl
theorem fld4 (r c t p s : Int) (w : World) : (Instr.field 37 (.agg #[.int .i64 r, .int .i64 c, .int .i64 t, .int .i64 p, .int .i64 s]) 4).run Try.prog w = .ok (.int .i64 s) w := by kernel_rfl

set_option maxHeartbeats 400000 in
theorem taken_calls (b : Nat) (r c t p s : Int) (w : World) (h : Mt w b r c t p s) :
    Calls Try.prog 9 #[.pointer (some ⟨b, 0, none⟩)] w fun e w' => e = .returned (.int .i64 t) ∧ Nw w w' := by
  have fl := fld2 r c t p s
  go_enter Try.func9, Try.ntmps9
  go_wp2_with (go_at_call 23; refine (see_calls b r c t p s _ h).mono ?_; rintro e w' ⟨rfl, hf⟩; have HF := Lib.hid hf; clear hf)
  go_ret
  exact ⟨rfl, HF.out⟩
set_option maxHeartbeats 400000 in
theorem taken_nil (w : World) :
    Calls Try.prog 9 #[.pointer none] w fun e w' => e = .returned (.int .i64 0) ∧ Nw w w' := by
  have fl := fld2 0 0 0 0 0
  go_enter Try.func9, Try.ntmps9
  go_wp2_with (go_at_call 23; refine (see_nil _).mono ?_; rintro e w' ⟨rfl, hf⟩; have HF := Lib.hid hf; clear hf)
  go_ret
  exact ⟨rfl, HF.out⟩

set_option maxHeartbeats 400000 in
theorem reads_calls (b : Nat) (r c t p s : Int) (w : World) (h : Mt w b r c t p s) :
    Calls Try.prog 13 #[.pointer (some ⟨b, 0, none⟩)] w fun e w' => e = .returned (.int .i64 r) ∧ Nw w w' := by
  have fl := fld0 r c t p s
  go_enter Try.func13, Try.ntmps13
  go_wp2_with (go_at_call 23; refine (see_calls b r c t p s _ h).mono ?_; rintro e w' ⟨rfl, hf⟩; have HF := Lib.hid hf; clear hf)
  go_ret
  exact ⟨rfl, HF.out⟩
set_option maxHeartbeats 400000 in
theorem reads_nil (w : World) :
    Calls Try.prog 13 #[.pointer none] w fun e w' => e = .returned (.int .i64 0) ∧ Nw w w' := by
  have fl := fld0 0 0 0 0 0
  go_enter Try.func13, Try.ntmps13
  go_wp2_with (go_at_call 23; refine (see_nil _).mono ?_; rintro e w' ⟨rfl, hf⟩; have HF := Lib.hid hf; clear hf)
  go_ret
  exact ⟨rfl, HF.out⟩

set_option maxHeartbeats 400000 in
theorem calls_calls (b : Nat) (r c t p s : Int) (w : World) (h : Mt w b r c t p s) :
    Calls Try.prog 14 #[.pointer (some ⟨b, 0, none⟩)] w fun e w' => e = .returned (.int .i64 c) ∧ Nw w w' := by
  have fl := fld1 r c t p s
  go_enter Try.func14, Try.ntmps14
  go_wp2_with (go_at_call 23; refine (see_calls b r c t p s _ h).mono ?_; rintro e w' ⟨rfl, hf⟩; have HF := Lib.hid hf; clear hf)
  go_ret
  exact ⟨rfl, HF.out⟩
set_option maxHeartbeats 400000 in
theorem calls_nil (w : World) :
    Calls Try.prog 14 #[.pointer none] w fun e w' => e = .returned (.int .i64 0) ∧ Nw w w' := by
  have fl := fld1 0 0 0 0 0
  go_enter Try.func14, Try.ntmps14
  go_wp2_with (go_at_call 23; refine (see_nil _).mono ?_; rintro e w' ⟨rfl, hf⟩; have HF := Lib.hid hf; clear hf)
  go_ret
  exact ⟨rfl, HF.out⟩

set_option maxHeartbeats 400000 in
theorem peak_calls (b : Nat) (r c t p s : Int) (w : World) (h : Mt w b r c t p s) :
    Calls Try.prog 15 #[.pointer (some ⟨b, 0, none⟩)] w fun e w' => e = .returned (.int .i64 p) ∧ Nw w w' := by
  have fl := fld3 r c t p s
  go_enter Try.func15, Try.ntmps15
  go_wp2_with (go_at_call 23; refine (see_calls b r c t p s _ h).mono ?_; rintro e w' ⟨rfl, hf⟩; have HF := Lib.hid hf; clear hf)
  go_ret
  exact ⟨rfl, HF.out⟩
set_option maxHeartbeats 400000 in
theorem peak_nil (w : World) :
    Calls Try.prog 15 #[.pointer none] w fun e w' => e = .returned (.int .i64 0) ∧ Nw w w' := by
  have fl := fld3 0 0 0 0 0
  go_enter Try.func15, Try.ntmps15
  go_wp2_with (go_at_call 23; refine (see_nil _).mono ?_; rintro e w' ⟨rfl, hf⟩; have HF := Lib.hid hf; clear hf)
  go_ret
  exact ⟨rfl, HF.out⟩

set_option maxHeartbeats 400000 in
theorem starts_calls (b : Nat) (r c t p s : Int) (w : World) (h : Mt w b r c t p s) :
    Calls Try.prog 11 #[.pointer (some ⟨b, 0, none⟩)] w fun e w' => e = .returned (.int .i64 s) ∧ Nw w w' := by
  have fl := fld4 r c t p s
  go_enter Try.func11, Try.ntmps11
  go_wp2_with (go_at_call 23; refine (see_calls b r c t p s _ h).mono ?_; rintro e w' ⟨rfl, hf⟩; have HF := Lib.hid hf; clear hf)
  go_ret
  exact ⟨rfl, HF.out⟩
set_option maxHeartbeats 400000 in
theorem starts_nil (w : World) :
    Calls Try.prog 11 #[.pointer none] w fun e w' => e = .returned (.int .i64 0) ∧ Nw w w' := by
  have fl := fld4 0 0 0 0 0
  go_enter Try.func11, Try.ntmps11
  go_wp2_with (go_at_call 23; refine (see_nil _).mono ?_; rintro e w' ⟨rfl, hf⟩; have HF := Lib.hid hf; clear hf)
  go_ret
  exact ⟨rfl, HF.out⟩

set_option maxHeartbeats 400000 in
theorem new_calls (w : World) :
    Calls Try.prog 22 #[] w fun e w' => e = .returned (.pointer (some ⟨w.heap.size, 0, none⟩)) ∧ Mt w' w.heap.size 0 0 0 0 0 ∧ Nw w w' := by
  go_enter Try.func22, Try.ntmps22
  go_wp2
  go_ret
  exact ⟨rfl, blk_new _ _, (Fr.refl _ _).alloc _⟩

end Go.Proofs.Ytkglhinlnkdajaa
