/-
  The reference of the bitmap: Steps, Do.
-/
import Derived.Test.YtiekoidlibhoeaaDoorBmSet3
namespace Go.Proofs.YtiekoidlibhoeaaDoor
open Go.RowKit Go.Shelf Go.Proofs.YtiekoidlibhoeaaDoorW.PrintWords Go.Proofs.YtiekoidlibhoeaaDoorW.PrintMore
set_option linter.unusedVariables false
set_option linter.unusedSimpArgs false

theorem nw_any' {S : Nat → Prop} {W W1 : World} (h : Nw W W1) : Fr S W W1 := ⟨h.os, h.tape, h.output, h.size, fun k hk _ => h.block k hk (fun h => h)⟩
def ints (l : List Nat) : List Int := l.map (fun n : Nat => (n : Int))
theorem ints_len (l : List Nat) : (ints l).length = l.length := by simp [ints]
theorem ints_append (l m : List Nat) : ints (l ++ m) = ints l ++ ints m := by simp [ints]


set_option maxRecDepth 100000 in
set_option maxHeartbeats 2000000 in
theorem set_steps (d a b st : Nat) (w : World) (ha : a < 65536) (hb : b < 65536) (hst : st < 65536) :
    Calls Tryd.prog 65 #[.agg #[.int .u8 d, .int .u16 a, .int .u16 b, .int .u16 st]] w fun e w' => ∃ v, e = .returned v ∧ Kd.R (Kd.int .u16) 40 w' w.heap.size (fun _ => True) v (ints (stepsL a b (2 + st % 9))) ∧ Below w.heap.size w w' := by
  have e5 : (st : Int).tmod 9 = ((st % 9 : Nat) : Int) := by rw [Int.tmod_eq_emod_of_nonneg (by omega)]; rfl
  have e6 : (st : Int) % 9 = ((st % 9 : Nat) : Int) := rfl
  obtain ⟨r, hr⟩ : ∃ r, r = st % 9 := ⟨_, rfl⟩
  have hr9 : r < 9 := by omega
  rw [← hr] at e5 e6 ⊢
  have e7 : IntKind.u16.wrap (r : Int) = (r : Int) := by simp [IntKind.wrap, IntKind.signed, IntKind.bits]; omega
  clear hr
  go_enter Tryd.func65, Tryd.ntmps65
  go_wp2_with (fail)
  have hbx := blk_new w (.cells #[.int .u8 d, .int .u16 a, .int .u16 b, .int .u16 st] 64)
  have hNw : Nw w (w.alloc (.cells #[.int .u8 d, .int .u16 a, .int .u16 b, .int .u16 st] 64)) := (Fr.refl _ _).alloc _
  obtain ⟨w1, hw1⟩ : ∃ w1, w1 = w.alloc (.cells #[.int .u8 d, .int .u16 a, .int .u16 b, .int .u16 st] 64) := ⟨_, rfl⟩
  rw [← hw1] at hbx hNw ⊢
  clear hw1
  have HBx := Lib.hid hbx
  have HNw := Lib.hid hNw
  have hb0 : w1.cell? ⟨w.heap.size, 0, none⟩ = some (.int .u8 d) := blk_cell hbx 0
  have hb1 : w1.cell? ⟨w.heap.size, 1, none⟩ = some (.int .u16 a) := blk_cell hbx 1
  have hb2 : w1.cell? ⟨w.heap.size, 2, none⟩ = some (.int .u16 b) := blk_cell hbx 2
  have hb3 : w1.cell? ⟨w.heap.size, 3, none⟩ = some (.int .u16 st) := blk_cell hbx 3
  clear hbx hNw
  go_wp2
  go_loopw [3, 4] (fun o i wr => ∃ (k : Nat) (acc : List Nat), k ≤ 65600 ∧ i = .int .i64 k ∧ acc.length ≤ k ∧ Hid (Kd.R (Kd.int .u16) 40 wr w.heap.size (fun _ => True) o (ints acc)) ∧ Hid (wr.heap[w.heap.size]? = some (.cells #[.int .u8 d, .int .u16 a, .int .u16 b, .int .u16 st] 64 (0, 0))) ∧ Hid (Below w.heap.size w wr) ∧ Hid (stepsL a b (2 + r) = acc ++ stepsL k b (2 + r))) (fun _ i _ => 65600 - (intOf i).toNat)
  case atStart => exact ⟨a, [], by omega, rfl, Nat.zero_le _, Lib.hid (Kd.R_nil _ _ _ _ _), HBx, Lib.hid (HNw.out.below (fun _ _ h => h)), Lib.hid rfl⟩
  case round =>
    obtain ⟨k, acc, hk, rfl, hac, HO, HN, HB, HH⟩ := hrel
    have hb2 : wr.cell? ⟨w.heap.size, 2, none⟩ = some (.int .u16 b) := blk_cell HN.out 2
    clear hb0 hb1 hb3
    by_cases hkb : k ≤ b
    · have hi : (k : Int) ≤ b := by omega
      have e1 : IntKind.u16.wrap (k : Int) = k := by simp [IntKind.wrap, IntKind.signed, IntKind.bits]; omega
      have HS := Lib.hid (stepsL_cons k b (2 + r) hkb (by omega))
      go_wp2_with (at_builtin; refine Kd.R_append (Kd.int .u16) (w0 := w) w.heap.size rfl (.tmp 20) (.tmp 23) 22 40 (.int .u16 0) 2 rfl Tryd.underlying22 info_u16 rfl (by decide) (by omega) _ (ints acc) (k : Int) [.int .u16 (k : Int)] (fun _ => True) (fun _ => False) rfl rfl rfl (fun _ h => h.elim) (fun _ _ => trivial) HO.out HB.out HB.out.size (by rw [ints_len]; omega) ?_; intro v1 w3 ho hb hg hat; have hbk := (hg.block w.heap.size (blk_lt HN.out) (Kd.R_ne HO.out HN.out (by decide))).trans HN.out; have HO := Lib.hid ho; have HB := Lib.hid hb; have HN := Lib.hid hbk; have hb3 : w3.cell? ⟨w.heap.size, 3, none⟩ = some (.int .u16 st) := blk_cell hbk 3; clear ho hb hg hat hbk)
      go_roundw
      case rel => exact ⟨k + (2 + r), acc ++ [k], by omega, by go_num, by simp; omega, Lib.hid (by rw [ints_append]; exact HO.out), HN, HB, Lib.hid (by rw [HH.out, HS.out]; simp)⟩
      case measure => simp [intOf]; omega
    · have hi : ¬ (k : Int) ≤ b := by omega
      have HS := Lib.hid (stepsL_none k b (2 + r) (by omega))
      go_wp2
      go_ret
      exact ⟨_, rfl, by rw [HH.out, HS.out, List.append_nil]; exact HO.out, HB.out⟩

theorem doB_fill (B d a b st : Nat) (h : d % 5 ≠ 4) : doB B d a b st = stepC B (decide (d % 5 = 0 ∨ d % 5 = 2)) a ((if d % 5 < 2 then a else b) + 1) := by
  have h5 := Nat.mod_lt d (show 0 < 5 by decide)
  unfold doB
  rcases (by omega : d % 5 = 0 ∨ d % 5 = 1 ∨ d % 5 = 2 ∨ d % 5 = 3) with e | e | e | e <;> simp [e]
theorem doB_steps (B d a b st : Nat) (h : d % 5 = 4) : doB B d a b st = (stepsL a b (2 + st % 9)).foldl oneF (B, 0) := by
  unfold doB; simp [h]

set_option maxRecDepth 100000 in
set_option maxHeartbeats 4000000 in
theorem set_do (s c B d a b st : Nat) (w : World) (hB : BS w s B) (hd : d < 256) (ha : a < 65536) (hb : b < 65536) (hst : st < 65536) :
    Calls Tryd.prog 64 #[.slice (some ⟨s, 0, none⟩) 65536 c, .agg #[.int .u8 d, .int .u16 a, .int .u16 b, .int .u16 st]] w fun e w' => e = .returned (.int .i64 ((doB B d a b st).2 : Nat)) ∧ BS w' s (doB B d a b st).1 ∧ Fr (One s) w w' := by
  have HS := Lib.hid hB
  have hsl := hB.slt
  clear hB
  have h5 := Nat.mod_lt d (show 0 < 5 by decide)
  have e5 : (d : Int).tmod 5 = ((d % 5 : Nat) : Int) := by rw [Int.tmod_eq_emod_of_nonneg (by omega)]; rfl
  have e6 : (d : Int) % 5 = ((d % 5 : Nat) : Int) := rfl
  by_cases h4 : d % 5 = 4
  · have HD := Lib.hid (doB_steps B d a b st h4)
    rw [HD.out]
    rw [h4] at e5 e6
    have f5 : (st : Int).tmod 9 = ((st % 9 : Nat) : Int) := by rw [Int.tmod_eq_emod_of_nonneg (by omega)]; rfl
    have f6 : (st : Int) % 9 = ((st % 9 : Nat) : Int) := rfl
    obtain ⟨r, hr⟩ : ∃ r, r = st % 9 := ⟨_, rfl⟩
    have hr9 : r < 9 := by omega
    rw [← hr] at f5 f6 ⊢
    have f7 : IntKind.u16.wrap (r : Int) = (r : Int) := by simp [IntKind.wrap, IntKind.signed, IntKind.bits]; omega
    clear hr HD h4 h5
    go_enter Tryd.func64, Tryd.ntmps64
    go_wp2_with (fail)
    have hbx := blk_new w (.cells #[.int .u8 d, .int .u16 a, .int .u16 b, .int .u16 st] 64)
    have hNw : Nw w (w.alloc (.cells #[.int .u8 d, .int .u16 a, .int .u16 b, .int .u16 st] 64)) := (Fr.refl _ _).alloc _
    obtain ⟨w1, hw1⟩ : ∃ w1, w1 = w.alloc (.cells #[.int .u8 d, .int .u16 a, .int .u16 b, .int .u16 st] 64) := ⟨_, rfl⟩
    rw [← hw1] at hbx hNw ⊢
    clear hw1
    have HBx := Lib.hid hbx
    have HNw := Lib.hid hNw
    have hb0 : w1.cell? ⟨w.heap.size, 0, none⟩ = some (.int .u8 d) := blk_cell hbx 0
    have hb1 : w1.cell? ⟨w.heap.size, 1, none⟩ = some (.int .u16 a) := blk_cell hbx 1
    have hb2 : w1.cell? ⟨w.heap.size, 2, none⟩ = some (.int .u16 b) := blk_cell hbx 2
    have hb3 : w1.cell? ⟨w.heap.size, 3, none⟩ = some (.int .u16 st) := blk_cell hbx 3
    clear hbx hNw
    go_wp2
    clear e5 e6
    go_loopw [5, 6] (fun n i wr => ∃ (k m : Nat) (acc : List Nat), k ≤ 65600 ∧ i = .int .i64 k ∧ n = .int .i64 m ∧ m ≤ k ∧ Hid (BS wr s (acc.foldl oneF (B, 0)).1) ∧ Hid (m = (acc.foldl oneF (B, 0)).2) ∧ Hid (Fr (One s) w1 wr) ∧ Hid (stepsL a b (2 + r) = acc ++ stepsL k b (2 + r))) (fun _ i _ => 65600 - (intOf i).toNat)
    case atStart => exact ⟨a, 0, [], by omega, rfl, rfl, Nat.zero_le _, Lib.hid (HS.out.nw HNw.out), Lib.hid rfl, Lib.hid (Fr.refl _ _), Lib.hid rfl⟩
    case round =>
      obtain ⟨k, m, acc, hk, rfl, rfl, hm, HBS, HM, HN, HH⟩ := hrel
      have hnb : ¬ One s w.heap.size := One.ne (by omega)
      have hb2 := HN.out.cell hb2 hnb
      have hb3 := HN.out.cell hb3 hnb
      clear hb0 hb1
      by_cases hkb : k ≤ b
      · have hi : (k : Int) ≤ b := by omega
        have e1 : IntKind.u16.wrap (k : Int) = k := by simp [IntKind.wrap, IntKind.signed, IntKind.bits]; omega
        have HSc := Lib.hid (stepsL_cons k b (2 + r) hkb (by omega))
        have HF := Lib.hid (fun W (h : BS W s (acc.foldl oneF (B, 0)).1) => set_fill s c _ k k true W h (by omega) (by omega))
        have h1 : (stepC (acc.foldl oneF (B, 0)).1 true k (k + 1)).2 ≤ 1 := by rw [one_bit]; split <;> omega
        have HO : Hid ((acc ++ [k]).foldl oneF (B, 0) = ((stepC (acc.foldl oneF (B, 0)).1 true k (k + 1)).1, m + (stepC (acc.foldl oneF (B, 0)).1 true k (k + 1)).2)) := Lib.hid (by rw [List.foldl_append, HM.out]; rfl)
        obtain ⟨x, hx⟩ : ∃ x, x = (stepC (acc.foldl oneF (B, 0)).1 true k (k + 1)).2 := ⟨_, rfl⟩
        rw [← hx] at h1 HO HF
        clear hx
        go_wp2_with (go_at_call 81; refine (HF.out _ HBS.out).mono ?_; rintro e w3 ⟨rfl, hS3, hF3⟩; have hb3 := hF3.cell hb3 hnb; have HS3 := Lib.hid hS3; have HF3 := Lib.hid hF3; clear hS3 hF3)
        go_roundw
        case rel => exact ⟨k + (2 + r), m + x, acc ++ [k], by omega, by go_num, by go_num, by omega, Lib.hid (by rw [HO.out]; exact HS3.out), Lib.hid (by rw [HO.out]), Lib.hid (HN.out.trans HF3.out), Lib.hid (by rw [HH.out, HSc.out]; simp)⟩
        case measure => simp [intOf]; omega
      · have hi : ¬ (k : Int) ≤ b := by omega
        have HSc := Lib.hid (stepsL_none k b (2 + r) (by omega))
        go_wp2
        go_ret
        exact ⟨ret_int (by rw [HH.out, HSc.out, List.append_nil, ← HM.out]), by rw [HH.out, HSc.out, List.append_nil]; exact HBS.out, (nw_any' HNw.out).trans HN.out⟩
  · have HD := Lib.hid (doB_fill B d a b st h4)
    rw [HD.out]
    rcases (by omega : d % 5 = 0 ∨ d % 5 = 1 ∨ d % 5 = 2 ∨ d % 5 = 3) with e | e | e | e
    all_goals
      rw [e] at e5 e6
      simp only [e]
      have HF := Lib.hid (fun W (t : Nat) (q : Bool) (h : BS W s B) (ht : t < 65536) => set_fill s c B a t q W h ha ht)
      clear h4 h5 HD e
      go_enter Tryd.func64, Tryd.ntmps64
      go_wp2_with (fail)
      have hbx := blk_new w (.cells #[.int .u8 d, .int .u16 a, .int .u16 b, .int .u16 st] 64)
      have hNw : Nw w (w.alloc (.cells #[.int .u8 d, .int .u16 a, .int .u16 b, .int .u16 st] 64)) := (Fr.refl _ _).alloc _
      obtain ⟨w1, hw1⟩ : ∃ w1, w1 = w.alloc (.cells #[.int .u8 d, .int .u16 a, .int .u16 b, .int .u16 st] 64) := ⟨_, rfl⟩
      rw [← hw1] at hbx hNw ⊢
      clear hw1
      have HBx := Lib.hid hbx
      have HNw := Lib.hid hNw
      have hb0 : w1.cell? ⟨w.heap.size, 0, none⟩ = some (.int .u8 d) := blk_cell hbx 0
      have hb1 : w1.cell? ⟨w.heap.size, 1, none⟩ = some (.int .u16 a) := blk_cell hbx 1
      have hb2 : w1.cell? ⟨w.heap.size, 2, none⟩ = some (.int .u16 b) := blk_cell hbx 2
      have hb3 : w1.cell? ⟨w.heap.size, 3, none⟩ = some (.int .u16 st) := blk_cell hbx 3
      clear hbx hNw
      go_wp2_with (first
        | (go_at_call 81; (with_reducible refine Calls.mono (HF.out _ a _ (HS.out.nw HNw.out) ha) ?_); rintro e w3 ⟨rfl, hS3, hF3⟩; have HS3 := Lib.hid hS3; have HF3 := Lib.hid hF3; clear hS3 hF3)
        | (go_at_call 81; (with_reducible refine Calls.mono (HF.out _ b _ (HS.out.nw HNw.out) hb) ?_); rintro e w3 ⟨rfl, hS3, hF3⟩; have HS3 := Lib.hid hS3; have HF3 := Lib.hid hF3; clear hS3 hF3))
      go_ret
      exact ⟨rfl, HS3.out, (nw_any' HNw.out).trans HF3.out⟩

end Go.Proofs.YtiekoidlibhoeaaDoor
