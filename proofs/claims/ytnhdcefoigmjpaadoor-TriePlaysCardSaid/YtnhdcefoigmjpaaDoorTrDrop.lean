/-
  What the reference's Drop computes; it leaves the list handed in as it is.
-/
import Derived.Deep.CutRange
import Derived.Test.YtnhdcefoigmjpaaDoorTrRefs2

namespace Go.Proofs.YtnhdcefoigmjpaaDoor
open Go.RowKit Go.Proofs.YtnhdcefoigmjpaaDoorW.PrintWords Go.Proofs.YtnhdcefoigmjpaaDoorW.PrintMore
attribute [local go_sem] max2_int min2_int max_two min_two
set_option linter.unusedVariables false
set_option linter.unusedSimpArgs false

theorem drop_none (A : Option Addr) (c : Nat) (l : List Nat) (k : Nat) (w : World) (hup : Up l) (hr : Kd.R (Kd.int .u64) 31 w 0 (fun _ => True) (.slice A l.length c) (keysI l)) (hl : l.length ≤ 1000000) (hk : k ∉ l) :
    Calls Tryd.prog 24 #[.slice A l.length c, .int .u64 k] w fun e w' => e = .returned (.slice A l.length c) ∧ Nw w w' := by
  have HF := Lib.hid (find2_calls A c l k w hup hr hl)
  rw [decide_eq_false hk] at HF
  clear hup hr hk
  go_enter Tryd.func24, Tryd.ntmps24
  go_wp2_with (go_at_call 20; refine HF.out.mono ?_; rintro e w1 ⟨rfl, hf⟩; have HN := Lib.hid hf; clear hf)
  go_ret
  exact ⟨rfl, HN.out⟩
theorem R_empty (W : World) : Kd.R (Kd.int .u64) 31 (W.alloc (.cells #[] 31)) W.heap.size (fun _ => True) (.slice (some ⟨W.heap.size, 0, none⟩) 0 0) [] :=
  Kd.R_of_own ⟨rfl, .inr ⟨W.heap.size, 0, #[], rfl, Nat.le_refl _, blk_new W _, Nat.le_refl _, Nat.zero_le _, rfl, rfl⟩⟩ (fun _ _ => trivial)
set_option maxRecDepth 100000 in
set_option maxHeartbeats 2000000 in
theorem drop_there (A : Option Addr) (c : Nat) (l : List Nat) (k : Nat) (w : World) (hup : Up l) (hr : Kd.R (Kd.int .u64) 31 w 0 (fun _ => True) (.slice A l.length c) (keysI l)) (hl : l.length ≤ 1000000) (hk : k ∈ l) :
    Calls Tryd.prog 24 #[.slice A l.length c, .int .u64 k] w fun e w' => ∃ A' c', e = .returned (.slice A' (dropS l k).length c') ∧ Kd.R (Kd.int .u64) 31 w' w.heap.size (fun _ => True) (.slice A' (dropS l k).length c') (keysI (dropS l k)) ∧ Nw w w' := by
  have hfd := find2_calls A c l k w hup hr hl
  rw [decide_eq_true hk] at hfd
  have hidx : cntLt l k < l.length := (List.getElem?_eq_some_iff.1 (cnt_here hup hk)).1
  have hdc := drop_cut hup hk
  obtain ⟨i, hi⟩ : ∃ i, i = cntLt l k := ⟨_, rfl⟩
  rw [← hi] at hfd hidx hdc
  obtain ⟨hC, hcl⟩ := R_c hr
  obtain ⟨X, hX⟩ : ∃ X, X = keysI (l.take i) := ⟨_, rfl⟩
  obtain ⟨Y, hY⟩ : ∃ Y, Y = keysI (l.drop (i + 1)) := ⟨_, rfl⟩
  have hXl : X.length = i := by rw [hX, keysI_len, List.length_take]; omega
  have hYl : Y.length = l.length - (i + 1) := by rw [hY, keysI_len, List.length_drop]
  have hC' : Kd.C (Kd.int .u64) w A (keysI l).length (keysI l) := by rw [keysI_len]; exact hC
  have hCX : Kd.C (Kd.int .u64) w A X.length X := by
    have := Kd.C_take (m := i) hC' (by rw [keysI_len]; omega)
    rw [keysI_take, ← hX] at this; exact this
  obtain ⟨A2, hA2⟩ : ∃ A2, A2 = (if c = i + 1 then A else A.map (·.add ((i + 1) * 1))) := ⟨_, rfl⟩
  have hCY : Kd.C (Kd.int .u64) w A2 Y.length Y := by
    have := Kd.C_drop (m := i + 1) (c := c) hC' (by rw [keysI_len]; omega) (by rw [keysI_len]; exact hcl)
    have e : (keysI l).drop (i + 1) = Y := by rw [hY]; simp [keysI, List.map_drop]
    rw [e] at this
    rw [hA2]; exact this
  have hcutA : ∀ W : World, (Instr.slice 22 (.slice A l.length c) none (some (.int .i64 (i : Nat))) none).run Tryd.prog W = .ok (.slice A X.length c) W := by
    obtain ⟨i0, hi0, _, hsz, _⟩ := info_parts info_u64
    have := cut_to (P := Tryd.prog) 22 31 .i64 Tryd.underlying22 hi0 A l.length c (i : Nat) (by omega) (by omega) hcl
    rw [hXl]; simpa using this
  have hcutB : ∀ W : World, (Instr.slice 22 (.slice A l.length c) (some (.int .i64 ((i : Int) + 1))) none none).run Tryd.prog W = .ok (.slice A2 Y.length (c - (i + 1))) W := by
    obtain ⟨i0, hi0, _, hsz, _⟩ := info_parts info_u64
    have := cut_from (P := Tryd.prog) 22 31 .i64 Tryd.underlying22 hi0 1 hsz A l.length c ((i : Int) + 1) (by omega) (by omega)
    rw [show ((i : Int) + 1).toNat = i + 1 by omega] at this
    rw [hYl, hA2]; exact this
  have HF := Lib.hid hfd
  have HCX := Lib.hid hCX
  have HCY := Lib.hid hCY
  have HXY : Hid (X ++ Y = keysI (dropS l k)) := Lib.hid (by rw [hX, hY, hdc]; simp [keysI])
  have HXL := Lib.hid hXl
  have HYL := Lib.hid hYl
  have hib : (i : Int) + 1 ≤ 1000001 := by omega
  have hwr : IntKind.i64.wrap ((i : Int) + 1) = (i : Int) + 1 := IntWalk.i64_in _ (by omega)
  have HLE := Lib.hid hl
  have HIX := Lib.hid hidx
  clear hfd hCX hCY hdc hX hY hXl hYl hC hC' hA2 hi hr hup hk hcl hl
  go_enter Tryd.func24, Tryd.ntmps24
  go_wp2_with (go_at_call 20; refine HF.out.mono ?_; rintro e w1 ⟨rfl, hf⟩; have HN := Lib.hid hf; clear hf)
  have HB1 : Hid (Below w1.drew.heap.size w1.drew (w1.drew.alloc (.cells #[] 31))) := Lib.hid ((Below.refl _ _).alloc (Nat.le_refl _) _)
  go_region_law (first
    | (refine Kd.R_append_rows_step (Kd.int .u64) (w0 := w1.drew) w1.drew.heap.size (by rfl) (.tmp 16) (.tmp 19) 22 31 (.int .u64 0) 8 (by rfl) Tryd.underlying22 info_u64 rfl (by decide) (by omega) (.slice (some ⟨w1.heap.size, 0, none⟩) 0 0) ([] : List Int) X A X.length c (fun _ => True) (fun _ => False) (by rfl) (by rfl) (R_empty w1.drew) (C_nw HCX.out ((HN.out.drew).alloc _)) (fun _ _ h => h) (fun _ h => h.elim) (fun _ _ => trivial) HB1.out (by simp) (by have := HXL.out; have := HLE.out; have := HIX.out; simp; omega) ?_; intro v1 w2 ho hb hg hat; obtain ⟨A5, c5, rfl⟩ := R_form ho; have HR5 := Lib.hid ho; have HB5 := Lib.hid hb; clear ho hb hg hat)
    | (refine Kd.R_append_rows_step (Kd.int .u64) (w0 := w1.drew) w1.drew.heap.size (by rfl) (.tmp 20) (.tmp 24) 22 31 (.int .u64 0) 8 (by rfl) Tryd.underlying22 info_u64 rfl (by decide) (by omega) (.slice A5 ([] ++ X).length c5) ([] ++ X) Y A2 Y.length (c - (i + 1)) (fun _ => True) (fun _ => False) (by rfl) (by rfl) HR5.out (C_nw HCY.out (HN.out.drew.trans (Fr.of_below HB5.out))) (fun _ _ h => h) (fun _ h => h.elim) (fun _ _ => trivial) HB5.out HB5.out.size (by have := HXL.out; have := HYL.out; have := HLE.out; have := HIX.out; simp; omega) ?_; intro v1 w3 ho hb hg hat; obtain ⟨A6, c6, rfl⟩ := R_form ho; have HR6 := Lib.hid ho; have HB6 := Lib.hid hb; clear ho hb hg hat))
  all_goals go_wp2
  all_goals go_ret
  all_goals (
    have hlen : (dropS l k).length = X.length + Y.length := by rw [← keysI_len, ← HXY.out]; simp
    have hR := HR6.out
    rw [List.nil_append, HXY.out, keysI_len] at hR
    refine ⟨A6, c6, by rw [hlen]; rfl, R_base (R_base0 hR) (fun q hq => Nat.le_trans HN.out.size (R_ge hR q hq)), HN.out.drew.trans (Fr.of_below HB6.out)⟩)
end Go.Proofs.YtnhdcefoigmjpaaDoor
