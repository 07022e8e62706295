/-
  slices.Equal at []uint64; strip's Equal and Of.
-/
import Derived.Test.YtacaeahijecfeaaDoorStripCopy
namespace Go.Proofs.YtacaeahijecfeaaDoor
open Go.RowKit Go.Shelf Go.Proofs.YtacaeahijecfeaaDoorW.PrintWords Go.Proofs.YtacaeahijecfeaaDoorW.PrintMore
set_option linter.unusedVariables false
set_option linter.unusedSimpArgs false

set_option maxRecDepth 100000 in
set_option maxHeartbeats 2000000 in
theorem eq64_calls (g1 g2 c1 c2 : Nat) (l m : List Int) (w : World) (h1 : ∀ j (h : j < l.length), w.cell? ⟨g1, j, none⟩ = some (.int .u64 l[j])) (h2 : ∀ j (h : j < m.length), w.cell? ⟨g2, j, none⟩ = some (.int .u64 m[j])) (hn : l.length ≤ 1000000) :
    Calls Tryd.prog 48 #[.slice (some ⟨g1, 0, none⟩) l.length c1, .slice (some ⟨g2, 0, none⟩) m.length c2] w fun e w' => e = .returned (.bool (decide (l = m))) ∧ Nw w w' := by
  have H1 := Lib.hid h1
  have H2 := Lib.hid h2
  clear h1 h2
  by_cases hl : l.length = m.length
  · rw [← hl]
    have HLm := Lib.hid hl
    clear hl
    go_enter Tryd.func48, Tryd.ntmps48
    go_wp2
    go_loopw [5, 13] (fun _ ii wr => ∃ k : Nat, k ≤ l.length ∧ ii = .int .i64 k ∧ Hid (l.take k = m.take k) ∧ Hid (Nw w wr)) (fun _ ii _ => l.length - (intOf ii).toNat)
    case atStart => exact ⟨0, Nat.zero_le _, rfl, Lib.hid rfl, Lib.hid (Fr.refl _ _)⟩
    case round =>
      obtain ⟨k, hk, rfl, HE, HN⟩ := hrel
      by_cases hlt : k < l.length
      · have hlt2 : k < m.length := HLm.out ▸ hlt
        have c1 := HN.out.cell (H1.out k hlt) (fun h => h)
        have c2 := HN.out.cell (H2.out k hlt2) (fun h => h)
        have ht1 := Lib.hid (List.take_succ_eq_append_getElem hlt)
        have ht2 := Lib.hid (List.take_succ_eq_append_getElem hlt2)
        have hne : Hid (l[k] ≠ m[k] → decide (l = m) = false) := Lib.hid (fun h => decide_eq_false (fun e => h (by subst e; rfl)))
        obtain ⟨x, hx⟩ : ∃ x, x = l[k] := ⟨_, rfl⟩
        obtain ⟨y, hy⟩ : ∃ y, y = m[k] := ⟨_, rfl⟩
        rw [← hx] at c1 ht1 hne
        rw [← hy] at c2 ht2 hne
        clear hx hy
        have b1 : (k : Int) < l.length := by omega
        clear hlt2
        by_cases hxy : x = y
        · subst hxy
          have HE2 : Hid (l.take (k + 1) = m.take (k + 1)) := Lib.hid (by rw [ht1.out, ht2.out, HE.out])
          go_wp2
          refine wp_still 8 (by kernel_rfl) (by kernel_rfl) ?_
          simp only [List.take_succ_cons, List.take_zero, List.drop_succ_cons, List.drop_zero]
          repeat still_step
          refine wpStill_nil ?_
          go_wp2
          go_roundw
          case rel => exact ⟨k + 1, by omega, by go_num, HE2, Lib.hid HN.out.drew⟩
          case measure => simp [intOf]; omega
        · have hd := Lib.hid (hne.out hxy)
          have t1 : (x == y) = false := by simp [hxy]
          have t2 : (x != y) = true := by simp [hxy]
          clear hxy
          go_wp2
          refine wp_still 8 (by kernel_rfl) (by kernel_rfl) ?_
          simp only [List.take_succ_cons, List.take_zero, List.drop_succ_cons, List.drop_zero]
          repeat still_step
          refine wpStill_nil ?_
          go_wp2
          go_ret
          exact ⟨by rw [hd.out]; rfl, HN.out.drew⟩
      · have hd : Hid (decide (l = m) = true) := Lib.hid (decide_eq_true (by
          have := HE.out
          rwa [List.take_of_length_le (by omega), List.take_of_length_le (by rw [← HLm.out]; omega)] at this))
        go_wp2
        go_ret
        exact ⟨by rw [hd.out]; rfl, HN.out⟩
  · have hd : Hid (decide (l = m) = false) := Lib.hid (decide_eq_false (fun h => hl (by rw [h])))
    have hl' : ¬ (l.length : Int) = m.length := by omega
    have hl2 : ((l.length : Int) == (m.length : Int)) = false := by simp [hl']
    have hl3 : ((l.length : Int) != (m.length : Int)) = true := by simp [hl']
    go_enter Tryd.func48, Tryd.ntmps48
    go_wp2
    go_ret
    exact ⟨by rw [hd.out]; rfl, Fr.refl _ _⟩


set_option maxRecDepth 100000 in
set_option maxHeartbeats 2000000 in
theorem sequal_calls (p1 q1 n1 B1 p2 q2 n2 B2 : Nat) (w : World) (h1 : St w p1 q1 n1 B1) (h2 : St w p2 q2 n2 B2) :
    Calls Tryd.prog 27 #[.pointer (some ⟨p1, 0, none⟩), .pointer (some ⟨p2, 0, none⟩)] w fun e w' => e = .returned (.bool (decide (wordsI n1 B1 = wordsI n2 B2))) ∧ Nw w w' := by
  obtain ⟨c1, e1⟩ := h1.head
  obtain ⟨c2, e2⟩ := h2.head
  have hc1 : w.cell? ⟨p1, 0, none⟩ = some (.slice (some ⟨q1, 0, none⟩) n1 c1) := blk_cell e1 0
  have hc2 : w.cell? ⟨p2, 0, none⟩ = some (.slice (some ⟨q2, 0, none⟩) n2 c2) := blk_cell e2 0
  have hl1 := wordsI_len n1 B1
  have hl2 := wordsI_len n2 B2
  have hle := h1.le
  have a1 : ∀ W, Nw w W → ∀ j (h : j < (wordsI n1 B1).length), W.cell? ⟨q1, j, none⟩ = some (.int .u64 (wordsI n1 B1)[j]) := fun W hW j hj => by
    obtain ⟨_, _, hw2, _⟩ := (h1.nw hW (fun h => h) (fun h => h)).word (k := j) (by omega)
    rw [wordsI_get]; exact hw2
  have a2 : ∀ W, Nw w W → ∀ j (h : j < (wordsI n2 B2).length), W.cell? ⟨q2, j, none⟩ = some (.int .u64 (wordsI n2 B2)[j]) := fun W hW j hj => by
    obtain ⟨_, _, hw2, _⟩ := (h2.nw hW (fun h => h) (fun h => h)).word (k := j) (by omega)
    rw [wordsI_get]; exact hw2
  have HE := Lib.hid (fun (W : World) (hW : Nw w W) => eq64_calls q1 q2 c1 c2 (wordsI n1 B1) (wordsI n2 B2) W (a1 W hW) (a2 W hW) (by omega))
  rw [hl1, hl2] at HE
  obtain ⟨r, hr⟩ : ∃ r, r = decide (wordsI n1 B1 = wordsI n2 B2) := ⟨_, rfl⟩
  rw [← hr] at HE ⊢
  clear a1 a2 hl1 hl2 e1 e2 h1 h2 hr
  go_enter Tryd.func27, Tryd.ntmps27
  go_wp2
  refine wp_still 8 (by kernel_rfl) (by kernel_rfl) ?_
  simp only [List.take_succ_cons, List.take_zero, List.drop_succ_cons, List.drop_zero]
  repeat still_step
  refine wpStill_nil ?_
  go_wp2_with (go_at_call 48; refine (HE.out _ (Fr.refl _ _).drew).mono ?_; rintro e w' ⟨rfl, hF⟩)
  go_ret
  exact ⟨rfl, (Fr.refl (fun _ => False) w).drew.trans hF⟩

/-! ### Of -/
set_option maxRecDepth 100000 in
set_option maxHeartbeats 2000000 in
theorem of_calls (A : Option Addr) (c : Nat) (l : List Int) (w : World) (hr : Kd.C (Kd.int .u64) w A l.length l) (hb : ∀ a, a ∈ l → 0 ≤ a ∧ a ≤ 18446744073709551615) (hn : l.length ≤ 4096) :
    Calls Tryd.prog 26 #[.slice A l.length c] w fun e w' => ∃ p q, e = .returned (.tuple #[.pointer (some ⟨p, 0, none⟩), .int .i64 0]) ∧ w.heap.size ≤ p ∧ w.heap.size ≤ q ∧ St w' p q l.length (bigN l) ∧ Nw w w' := by
  have HR := Lib.hid hr
  have HB := Lib.hid (Below.refl w.heap.size w)
  clear hr
  go_enter Tryd.func26, Tryd.ntmps26
  go_wp2_with (first
    | (refine Kd.R_make (Kd.int .u64) (w0 := w) w.heap.size 48 rfl rfl 36 (.tmp 9) (.tmp 9) rfl l.length rfl rfl Tryd.underlying36 (.int .u64 0) 8 (by kernel_rfl) rfl (by decide) (by decide) (0 : Int) (ok := fun _ => True) (okp := fun _ => False) rfl (fun _ h => h.elim) trivial (by omega) (by simp; omega) HB.out (Nat.le_refl _) ?_; intro v1 w1 ho hb1 hg hat; obtain ⟨A1, c1, rfl, hc, hC⟩ := Kd.R_reads ho; simp only [List.length_replicate, Int.toNat_natCast] at ho hat; have HO1 := Lib.hid ho; have HB1 := Lib.hid hb1; have HAt := Lib.hid hat; clear ho hb1 hg hat hC HB)
    | (refine Kd.R_copy (enc := Value.int .u64) (h1 := fun _ => rfl) (0 : Int) (w0 := w) w.heap.size rfl (.tmp 16) (.tmp 17) 36 36 48 rfl Tryd.underlying36 (by kernel_rfl) (.slice A1 l.length c1) (List.replicate l.length 0) l A l.length c (fun _ => True) rfl rfl (Kd.R_of_own (World.ownsRow.alloc (Kd.own_of_R HO1.out) (.cells #[.slice A1 l.length c1] 71)) (fun _ _ => trivial)) (Kd.C_below HR.out (HB1.out.alloc HB1.out.size (.cells #[.slice A1 l.length c1] 71))) (HB1.out.alloc HB1.out.size (.cells #[.slice A1 l.length c1] 71)) (by have := HB1.out.size; simp; omega) ?_; intro w2 ho2 hb2 hg2; rw [show l.take (min l.length (List.replicate l.length (0 : Int)).length) ++ (List.replicate l.length (0 : Int)).drop (min l.length (List.replicate l.length (0 : Int)).length) = l by simp] at ho2; have HO2 := Lib.hid ho2; have HB2 := Lib.hid hb2; have HG2 := Lib.hid hg2; clear ho2 hb2 hg2))
  obtain ⟨_, hrow⟩ := Kd.own_of_R HO2.out
  have hp9 := HG2.out.block w1.heap.size (by simp)
  rcases hrow with ⟨hnil, _⟩ | ⟨g, cap, cur, hv, hg1, hblk, h1, h2, h3, h4⟩
  · obtain ⟨b, hb1, _⟩ := HAt.out
    rw [hnil] at hb1; simp [Value.ownBlock] at hb1
  injection hv with hA _ hcap
  subst hA
  subst hcap
  have hgl : g < w1.heap.size := by
    obtain ⟨_, hrow0⟩ := Kd.own_of_R HO1.out
    rcases hrow0 with ⟨hnil, _⟩ | ⟨g', cap', cur', hv', _, hblk', _⟩
    · cases hnil
    · injection hv' with hA' _ _
      cases hA'
      exact blk_lt hblk'
  have hp10 : w2.heap[w1.heap.size]? = some (.cells #[.slice (some ⟨g, 0, none⟩) l.length c1] 71 (0, 0)) := (hp9 (by simp [Value.ownBlock]; omega)).trans (blk_new _ _)
  have hN2 : Nw w w2 := Fr.of_below HB2.out
  have hsz : w.heap.size ≤ w1.heap.size := HB1.out.size
  have hbl := bigN_lt l hb
  have hbw := bigN_words l hb
  have hst : St w2 w1.heap.size g l.length (bigN l) := ⟨by omega, hn, hbl, ⟨c1, hp10⟩, ⟨cur, hblk, by simp at h1 h3; omega, by rw [hbw]; simpa [encs] using h4⟩⟩
  have HST := Lib.hid hst
  have HN2 := Lib.hid hN2
  clear hp9 hp10 h1 h2 h3 h4 hblk hbl hbw hst hN2
  go_wp2
  go_returns
  exact ⟨w1.heap.size, rfl, hsz, g, hg1, HST.out, HN2.out⟩

end Go.Proofs.YtacaeahijecfeaaDoor
