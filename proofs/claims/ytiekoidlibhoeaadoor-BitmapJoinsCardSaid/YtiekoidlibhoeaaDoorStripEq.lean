/-
  slices.Equal at []uint64; strip's Equal and Of.
-/
import Derived.Test.YtiekoidlibhoeaaDoorStripCopy
namespace Go.Proofs.YtiekoidlibhoeaaDoor
open Go.RowKit Go.Shelf Go.Proofs.YtiekoidlibhoeaaDoorW.PrintWords Go.Proofs.YtiekoidlibhoeaaDoorW.PrintMore
set_option linter.unusedVariables false
set_option linter.unusedSimpArgs false




/-! ### Of -/
set_option maxRecDepth 100000 in
set_option maxHeartbeats 2000000 in
theorem of_calls (A : Option Addr) (c : Nat) (l : List Int) (w : World) (hr : Kd.C (Kd.int .u64) w A l.length l) (hb : ∀ a, a ∈ l → 0 ≤ a ∧ a ≤ 18446744073709551615) (hn : l.length ≤ 4096) :
    Calls Tryd.prog 76 #[.slice A l.length c] w fun e w' => ∃ p q, e = .returned (.tuple #[.pointer (some ⟨p, 0, none⟩), .int .i64 0]) ∧ w.heap.size ≤ p ∧ w.heap.size ≤ q ∧ St w' p q l.length (bigN l) ∧ Nw w w' := by
  have HR := Lib.hid hr
  have HB := Lib.hid (Below.refl w.heap.size w)
  clear hr
  go_enter Tryd.func76, Tryd.ntmps76
  go_wp2_with (first
    | (refine Kd.R_make (Kd.int .u64) (w0 := w) w.heap.size 66 rfl rfl 67 (.tmp 9) (.tmp 9) rfl l.length rfl rfl Tryd.underlying67 (.int .u64 0) 8 (by kernel_rfl) rfl (by decide) (by decide) (0 : Int) (ok := fun _ => True) (okp := fun _ => False) rfl (fun _ h => h.elim) trivial (by omega) (by simp; omega) HB.out (Nat.le_refl _) ?_; intro v1 w1 ho hb1 hg hat; obtain ⟨A1, c1, rfl, hc, hC⟩ := Kd.R_reads ho; simp only [List.length_replicate, Int.toNat_natCast] at ho hat; have HO1 := Lib.hid ho; have HB1 := Lib.hid hb1; have HAt := Lib.hid hat; clear ho hb1 hg hat hC HB)
    | (refine Kd.R_copy (enc := Value.int .u64) (h1 := fun _ => rfl) (0 : Int) (w0 := w) w.heap.size rfl (.tmp 16) (.tmp 17) 67 67 66 rfl Tryd.underlying67 (by kernel_rfl) (.slice A1 l.length c1) (List.replicate l.length 0) l A l.length c (fun _ => True) rfl rfl (Kd.R_of_own (World.ownsRow.alloc (Kd.own_of_R HO1.out) (.cells #[.slice A1 l.length c1] 87)) (fun _ _ => trivial)) (Kd.C_below HR.out (HB1.out.alloc HB1.out.size (.cells #[.slice A1 l.length c1] 87))) (HB1.out.alloc HB1.out.size (.cells #[.slice A1 l.length c1] 87)) (by have := HB1.out.size; simp; omega) ?_; intro w2 ho2 hb2 hg2; rw [show l.take (min l.length (List.replicate l.length (0 : Int)).length) ++ (List.replicate l.length (0 : Int)).drop (min l.length (List.replicate l.length (0 : Int)).length) = l by simp] at ho2; have HO2 := Lib.hid ho2; have HB2 := Lib.hid hb2; have HG2 := Lib.hid hg2; clear ho2 hb2 hg2))
  obtain ⟨_, hrow⟩ := Kd.own_of_R HO2.out
  have hp9 := HG2.out.block w1.heap.size (by simp)
  rcases hrow with ⟨hnil, _⟩ | ⟨g, cap, cur, hv, hg1, hblk, h1, h2, h3, h4⟩
  · obtain ⟨b, hb1, _⟩ := HAt.out
    rw [hnil] at hb1; simp [Value.ownBlock] at hb1
  injection hv with hA _ hcap
  subst hA
  subst hcap
  have hgl : g < w1.heap.size := by
    obtain ⟨_, hrow0⟩ := Kd.own_of_R HO1.out
    rcases hrow0 with ⟨hnil, _⟩ | ⟨g', cap', cur', hv', _, hblk', _⟩
    · cases hnil
    · injection hv' with hA' _ _
      cases hA'
      exact blk_lt hblk'
  have hp10 : w2.heap[w1.heap.size]? = some (.cells #[.slice (some ⟨g, 0, none⟩) l.length c1] 87 (0, 0)) := (hp9 (by simp [Value.ownBlock]; omega)).trans (blk_new _ _)
  have hN2 : Nw w w2 := Fr.of_below HB2.out
  have hsz : w.heap.size ≤ w1.heap.size := HB1.out.size
  have hbl := bigN_lt l hb
  have hbw := bigN_words l hb
  have hst : St w2 w1.heap.size g l.length (bigN l) := ⟨by omega, hn, hbl, ⟨c1, hp10⟩, ⟨cur, hblk, by simp at h1 h3; omega, by rw [hbw]; simpa [encs] using h4⟩⟩
  have HST := Lib.hid hst
  have HN2 := Lib.hid hN2
  clear hp9 hp10 h1 h2 h3 h4 hblk hbl hbw hst hN2
  go_wp2
  go_returns
  exact ⟨w1.heap.size, rfl, hsz, g, hg1, HST.out, HN2.out⟩

end Go.Proofs.YtiekoidlibhoeaaDoor
