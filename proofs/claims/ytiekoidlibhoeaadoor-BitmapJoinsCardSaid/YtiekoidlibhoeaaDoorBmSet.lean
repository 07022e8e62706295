/-
  The reference of the bitmap: a set is 65536 bools; its functions, in terms of the bits of one number.
-/
import Derived.Test.YtiekoidlibhoeaaDoorBmPure
import Derived.Test.YtiekoidlibhoeaaDoorBmSame
import Derived.Test.YtiekoidlibhoeaaDoorStrip
import Derived.StillTailTactics
namespace Go.Proofs.YtiekoidlibhoeaaDoor
open Go.RowKit Go.Shelf Go.Proofs.YtiekoidlibhoeaaDoorW.PrintWords Go.Proofs.YtiekoidlibhoeaaDoorW.PrintMore
attribute [local go_sem] max2_int min2_int max_two min_two
set_option linter.unusedVariables false
set_option linter.unusedSimpArgs false

/-- Block s holds a set: of each number, whether it is a bit of B. -/
def BS (W : World) (s B : Nat) : Prop := ∃ cur : Array Value, W.heap[s]? = some (.cells cur 4 (0, 0)) ∧ ∀ j, j < 65536 → cur[j]? = some (.bool (B.testBit j))
theorem BS.keep {W W1 : World} {s B : Nat} (h : BS W s B) (hk : ∀ cs, W.heap[s]? = some (.cells cs 4 (0, 0)) → W1.heap[s]? = some (.cells cs 4 (0, 0))) : BS W1 s B := by
  obtain ⟨cur, h1, h2⟩ := h
  exact ⟨cur, hk _ h1, h2⟩
theorem BS.fr {W W1 : World} {s B : Nat} {S : Nat → Prop} (h : BS W s B) (hf : Fr S W W1) (hs : ¬ S s) : BS W1 s B := h.keep (fun _ hb => hf.blk hb hs)
theorem BS.nw {W W1 : World} {s B : Nat} (h : BS W s B) (hf : Nw W W1) : BS W1 s B := h.fr hf (fun h => h)
theorem BS.cell {W : World} {s B : Nat} (h : BS W s B) {j : Nat} (hj : j < 65536) : W.cell? ⟨s, j, none⟩ = some (.bool (B.testBit j)) := by
  obtain ⟨cur, h1, h2⟩ := h
  rw [blk_cell h1]; exact h2 j hj
theorem BS.frozen {W : World} {s B : Nat} (h : BS W s B) (j : Nat) : W.frozen? ⟨s, j, none⟩ = false := by
  obtain ⟨cur, h1, _⟩ := h
  exact blk_frozen h1 j
theorem BS.slt {W : World} {s B : Nat} (h : BS W s B) : s < W.heap.size := by obtain ⟨cur, h1, _⟩ := h; exact blk_lt h1
theorem BS.set {W : World} {s B C k : Nat} {b : Bool} (h : BS W s B) (hk : C.testBit k = b) (ho : ∀ j, j ≠ k → C.testBit j = B.testBit j) : BS (W.setCell ⟨s, k, none⟩ (.bool b)) s C := by
  obtain ⟨cur, h1, h2⟩ := h
  refine ⟨_, blk_set h1 k (.bool b), fun j hj => ?_⟩
  have h3 := h2 j hj
  rw [Array.getElem?_setIfInBounds]
  have hl : j < cur.size := (Array.getElem?_eq_some_iff.1 h3).1
  by_cases e : k = j
  · subst e; rw [if_pos rfl, if_pos hl, hk]
  · rw [if_neg e, h3, ho j (fun e' => e e'.symm)]

theorem make_set {W : World} {n base : Nat} {v : Value} (h : Kd.R Kd.bool 4 W base (fun _ => True) v (List.replicate n false)) (ha : ∃ b, v.ownBlock = some b ∧ base ≤ b) :
    ∃ g c cur, v = .slice (some ⟨g, 0, none⟩) n c ∧ base ≤ g ∧ W.heap[g]? = some (.cells cur 4 (0, 0)) ∧ ∀ j : Nat, j < n → cur[j]? = some (.bool false) := by
  obtain ⟨hl, hrow⟩ := Kd.own_of_R h
  rcases hrow with ⟨hnil, _⟩ | ⟨g, cap, cur, hv, hg, hblk, h1, h2, h3, h4⟩
  · obtain ⟨b, hb1, _⟩ := ha
    rw [hnil] at hb1; simp [Value.ownBlock] at hb1
  · rw [List.length_replicate] at hv
    refine ⟨g, cap, cur, hv, hg, hblk, fun j hj => ?_⟩
    have h5 : (encs Value.bool (List.replicate n false))[j]? = some (.bool false) := by simp [encs, hj]
    have h6 : (cur.toList.take (n * 1))[j]? = some (.bool false) := by
      rw [← h5]; congr 1; simpa [encs] using h4
    rw [List.getElem?_take, if_pos (by omega)] at h6
    simpa using h6

set_option maxHeartbeats 1000000 in
theorem set_new (w : World) :
    Calls Tryd.prog 40 #[] w fun e w' => ∃ s c, e = .returned (.slice (some ⟨s, 0, none⟩) 65536 c) ∧ w.heap.size ≤ s ∧ BS w' s 0 ∧ Nw w w' := by
  have HB := Lib.hid (Below.refl w.heap.size w)
  go_enter Tryd.func40, Tryd.ntmps40
  go_wp2_with (refine Kd.R_make Kd.bool (w0 := w) w.heap.size 4 rfl rfl 29 (.const (.int .i64 65536)) (.const (.int .i64 65536)) rfl 65536 rfl rfl Tryd.underlying29 (.bool false) 1 (by kernel_rfl) rfl (by decide) (by decide) false (ok := fun _ => True) (okp := fun _ => False) rfl (fun _ h => h.elim) trivial (by omega) (by omega) HB.out (Nat.le_refl _) ?_; intro v1 w1 ho hb hg hat; obtain ⟨g, c, cur, rfl, hg1, hblk, hz⟩ := make_set ho hat; have HBk := Lib.hid hblk; have HZ := Lib.hid hz; have HNb := Lib.hid hb; clear ho hb hg hat hblk hz)
  go_ret
  exact ⟨g, c, rfl, hg1, ⟨cur, HBk.out, fun j hj => by rw [HZ.out j hj, Nat.zero_testBit]⟩, Fr.of_below HNb.out⟩

set_option maxRecDepth 100000 in
set_option maxHeartbeats 2000000 in
theorem set_fill (s c B f t : Nat) (b : Bool) (w : World) (hB : BS w s B) (hf : f < 65536) (ht : t < 65536) :
    Calls Tryd.prog 81 #[.slice (some ⟨s, 0, none⟩) 65536 c, .int .u16 f, .int .u16 t, .bool b] w fun e w' => e = .returned (.int .i64 ((stepC B b f (t + 1)).2 : Nat)) ∧ BS w' s (stepC B b f (t + 1)).1 ∧ Fr (One s) w w' := by
  have HB := Lib.hid hB
  clear hB
  go_enter Tryd.func81, Tryd.ntmps81
  go_wp2
  go_loopw [9, 10] (fun nn ii wr => ∃ k m : Nat, nn = .int .i64 m ∧ ii = .int .i64 k ∧ f ≤ k ∧ k ≤ max f (t + 1) ∧ m ≤ k ∧ Hid (m = (stepC B b f k).2) ∧ Hid (BS wr s (stepC B b f k).1) ∧ Hid (Fr (One s) w wr)) (fun _ ii _ => t + 1 - (intOf ii).toNat)
  case atStart => exact ⟨f, 0, rfl, rfl, Nat.le_refl _, by omega, by omega, Lib.hid (by rw [stepC_start _ _ _ _ (Nat.le_refl _)]), Lib.hid (by rw [stepC_start _ _ _ _ (Nat.le_refl _)]; exact HB.out), Lib.hid (Fr.refl _ _)⟩
  case round =>
    obtain ⟨k, m, rfl, rfl, hk1, hk2, hm, HM, HS, HF⟩ := hrel
    by_cases h : k ≤ t
    · have hkt : (k : Int) ≤ t := by omega
      have hc := HS.out.cell (j := k) (by omega)
      have hfz := HS.out.frozen k
      rw [stepC_at] at hc
      have HN := Lib.hid (fun j => stepC_new B b f k j hk1)
      have HC := Lib.hid (stepC_cnt B b f k hk1)
      obtain ⟨x, hx⟩ : ∃ x, x = B.testBit k := ⟨_, rfl⟩
      rw [← hx] at hc HC
      clear hx
      have hi : (k : Int) < 65536 := by omega
      cases x <;> cases b
      all_goals
        go_wp2
        go_roundw
        case rel => exact ⟨k + 1, _, rfl, by go_num, by omega, by omega, by first | omega | exact Nat.le_succ_of_le hm | exact Nat.succ_le_succ hm, Lib.hid (by rw [HC.out, ← HM.out]; first | rfl | simp), Lib.hid (HS.out.set (by rw [HN.out, if_pos rfl]) (fun j hj => by rw [HN.out, if_neg hj])), Lib.hid (HF.out.set (One.self s) k _)⟩
        case measure => simp [intOf]; omega
    · have hkt : ¬ (k : Int) ≤ t := by omega
      have HE : Hid (stepC B b f k = stepC B b f (t + 1)) := Lib.hid (by
        rcases Nat.le_total f (t + 1) with h1 | h1
        · congr 1; omega
        · rw [stepC_start _ _ _ _ h1, stepC_start _ _ _ _ (by omega)])
      go_wp2
      go_ret
      exact ⟨ret_int (by rw [← HE.out, ← HM.out]), by rw [← HE.out]; exact HS.out, HF.out⟩

theorem at16_calls (x : Int) (b : Bool) (w : World) (hx : 0 ≤ x ∧ x < 65536) :
    Calls Tryd.prog 25 #[.int .u16 x, .bool b] w fun e w' => e = .returned (.int .i64 (if b then x else -1)) ∧ w = w' := by
  have h0 := hx.1
  have h1 := hx.2
  clear hx
  cases b
  all_goals
    go_enter Tryd.func25, Tryd.ntmps25
    go_wp2
    go_ret
    exact ⟨rfl, rfl⟩

end Go.Proofs.YtiekoidlibhoeaaDoor
