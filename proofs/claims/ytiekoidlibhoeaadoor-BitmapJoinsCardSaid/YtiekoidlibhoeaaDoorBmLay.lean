/-
  The law's own words of the bitmap: do, lay, awake.
-/
import Derived.Test.YtiekoidlibhoeaaDoorBm2
import Derived.Test.YtiekoidlibhoeaaDoorBmSet4
namespace Go.Proofs.YtiekoidlibhoeaaDoor
open Go.RowKit Go.Shelf Go.Proofs.YtiekoidlibhoeaaDoorW.PrintWords Go.Proofs.YtiekoidlibhoeaaDoorW.PrintMore
set_option linter.unusedVariables false
set_option linter.unusedSimpArgs false

theorem typ_ne {W : World} {a b : Nat} {c d : Array Value} {s t : TypeId} {m n : Nat × Nat} (h : W.heap[a]? = some (Obj.cells c s m)) (k : W.heap[b]? = some (Obj.cells d t n)) (hst : s ≠ t) : a ≠ b := by
  rintro rfl
  have := h.symm.trans k
  injection this with this
  injection this with _ h2 _
  exact hst h2
/-- What turned was a bitmap. -/
theorem BS.bm {W W1 : World} {s B b p q C : Nat} (h : BS W s B) (hm : BM W b p q C) (hf : Fr (TwoB b q) W W1) : BS W1 s B := by
  obtain ⟨cur, h1, _⟩ := id h
  obtain ⟨cq, h2, _⟩ := hm.st.cells
  exact h.fr hf (fun e => by rcases e with e | e; exact typ_ne h1 hm.head (by decide) e; exact typ_ne h1 h2 (by decide) e)
/-- What turned was a set. -/
theorem BM.set {W W1 : World} {s B b p q C : Nat} (h : BS W s B) (hm : BM W b p q C) (hf : Fr (One s) W W1) : BM W1 b p q C := by
  obtain ⟨cur, h1, _⟩ := id h
  obtain ⟨cq, h2, _⟩ := hm.st.cells
  obtain ⟨c, h3⟩ := hm.st.head
  exact hm.fr hf (One.ne (fun e => typ_ne h1 hm.head (by decide) e.symm)) (One.ne (fun e => typ_ne h1 h3 (by decide) e.symm)) (One.ne (fun e => typ_ne h1 h2 (by decide) e.symm))

def Tri (a b c : Nat) : Nat → Prop := fun k => k = a ∨ k = b ∨ k = c

theorem do_add (B d a b st : Nat) (h : d % 5 = 0) : doB B d a b st = stepC B true a (a + 1) := by unfold doB; simp [h]
theorem do_drop (B d a b st : Nat) (h : d % 5 = 1) : doB B d a b st = stepC B false a (a + 1) := by unfold doB; simp [h]
theorem do_fill16 (B d a b st : Nat) (h : d % 5 = 2) : doB B d a b st = stepC B true a (b + 1) := by unfold doB; simp [h]
theorem do_wipe16 (B d a b st : Nat) (h : d % 5 = 3) : doB B d a b st = stepC B false a (b + 1) := by unfold doB; simp [h]

theorem tri_fin {b q s : Nat} {w w1 w5 w6 : World} (h1 : Nw w w1) (h5 : Fr (One s) w1 w5) (h6 : Fr (TwoB b q) w5 w6) : Fr (Tri b q s) w w6 :=
  ((nw_any' h1).trans_of h5 (fun _ _ h => .inr (.inr h))).trans_of h6 (fun _ _ h => by rcases h with h | h; exact .inl h; exact .inr (.inl h))

set_option maxRecDepth 100000 in
set_option maxHeartbeats 4000000 in
theorem bdo_calls (b p q s c B d a b' st : Nat) (w : World) (hM : BM w b p q B) (hB : BS w s B) (hd : d < 256) (ha : a < 65536) (hb : b' < 65536) (hst : st < 65536) :
    Calls Tryd.prog 42 #[.pointer (some ⟨b, 0, none⟩), .slice (some ⟨s, 0, none⟩) 65536 c, .agg #[.int .u8 d, .int .u16 a, .int .u16 b', .int .u16 st]] w fun e w' =>
      e = .returned (.bool true) ∧ BM w' b p q (doB B d a b' st).1 ∧ BS w' s (doB B d a b' st).1 ∧ Fr (Tri b q s) w w' := by
  have HM := Lib.hid hM
  have HB := Lib.hid hB
  have hsl := hB.slt
  clear hM hB
  rcases (by omega : d % 5 = 0 ∨ d % 5 = 1 ∨ d % 5 = 2 ∨ d % 5 = 3 ∨ d % 5 = 4) with h | h | h | h | h
  · have hD := do_add B d a b' st h
    have HDo := Lib.hid (fun W (hS : BS W s B) => set_do s c B d a b' st W hS hd ha hb hst)
    rw [hD] at HDo ⊢
    have e5 : (d : Int).tmod 5 = 0 := by rw [Int.tmod_eq_emod_of_nonneg (by omega)]; omega
    have e6 : (d : Int) % 5 = 0 := by omega
    have hon := one_bit B true a
    have HAd := Lib.hid (fun W (h : BM W b p q B) => bm_add b p q B a W h ha)
    have hx : (!B.testBit a) = decide ((0 : Int) < ((stepC B true a (a + 1)).2 : Nat)) := by rw [hon]; cases B.testBit a <;> rfl
    rw [hx] at HAd
    obtain ⟨⟨C, m⟩, hCm⟩ : ∃ r, r = stepC B true a (a + 1) := ⟨_, rfl⟩
    rw [← hCm] at HAd HDo ⊢
    simp only at HAd HDo ⊢
    clear hon hx hCm
    clear h hD
    go_enter Tryd.func42, Tryd.ntmps42
    go_wp2_with (fail)
    have hbx := blk_new w (.cells #[.int .u8 d, .int .u16 a, .int .u16 b', .int .u16 st] 64)
    have hNw : Nw w (w.alloc (.cells #[.int .u8 d, .int .u16 a, .int .u16 b', .int .u16 st] 64)) := (Fr.refl _ _).alloc _
    obtain ⟨w1, hw1⟩ : ∃ w1, w1 = w.alloc (.cells #[.int .u8 d, .int .u16 a, .int .u16 b', .int .u16 st] 64) := ⟨_, rfl⟩
    rw [← hw1] at hbx hNw ⊢
    clear hw1
    have HBx := Lib.hid hbx
    have HNw := Lib.hid hNw
    have hb0 : w1.cell? ⟨w.heap.size, 0, none⟩ = some (.int .u8 d) := blk_cell hbx 0
    have hb1 : w1.cell? ⟨w.heap.size, 1, none⟩ = some (.int .u16 a) := blk_cell hbx 1
    have hb2 : w1.cell? ⟨w.heap.size, 2, none⟩ = some (.int .u16 b') := blk_cell hbx 2
    have hb3 : w1.cell? ⟨w.heap.size, 3, none⟩ = some (.int .u16 st) := blk_cell hbx 3
    clear hbx hNw
    go_wp2_with (first
      | (go_at_call 64; refine (HDo.out w1 (HB.out.nw HNw.out)).mono ?_; rintro e w5 ⟨rfl, hS5, hF5⟩; have hM5 := BM.set (HB.out.nw HNw.out) (HM.out.nw HNw.out) hF5; have hx5 := hF5.blk HBx.out (One.ne (by omega)); have hb0 : w5.cell? ⟨w.heap.size, 0, none⟩ = some (.int .u8 d) := blk_cell hx5 0; have hb1 : w5.cell? ⟨w.heap.size, 1, none⟩ = some (.int .u16 a) := blk_cell hx5 1; have hb2 : w5.cell? ⟨w.heap.size, 2, none⟩ = some (.int .u16 b') := blk_cell hx5 2; have hb3 : w5.cell? ⟨w.heap.size, 3, none⟩ = some (.int .u16 st) := blk_cell hx5 3; have HS5 := Lib.hid hS5; have HM5 := Lib.hid hM5; have HF5 := Lib.hid hF5; have HX5 := Lib.hid hx5; clear hx5 hS5 hM5 hF5)
      | (go_at_call 32; refine (HAd.out _ HM5.out).mono ?_; rintro e w6 ⟨rfl, hM6, hF6⟩; have HM6 := Lib.hid hM6; have HF6 := Lib.hid hF6; have HS6 := Lib.hid (HS5.out.bm HM5.out hF6); clear hM6 hF6))
    go_ret
    exact ⟨ret_bool (by simp), HM6.out, HS6.out, tri_fin HNw.out HF5.out HF6.out⟩
  · have hD := do_drop B d a b' st h
    have HDo := Lib.hid (fun W (hS : BS W s B) => set_do s c B d a b' st W hS hd ha hb hst)
    rw [hD] at HDo ⊢
    have e5 : (d : Int).tmod 5 = 1 := by rw [Int.tmod_eq_emod_of_nonneg (by omega)]; omega
    have e6 : (d : Int) % 5 = 1 := by omega
    have hon := one_bit B false a
    have HAd := Lib.hid (fun W (h : BM W b p q B) => bm_drop b p q B a W h ha)
    have hx : (B.testBit a) = decide ((0 : Int) < ((stepC B false a (a + 1)).2 : Nat)) := by rw [hon]; cases B.testBit a <;> rfl
    rw [hx] at HAd
    obtain ⟨⟨C, m⟩, hCm⟩ : ∃ r, r = stepC B false a (a + 1) := ⟨_, rfl⟩
    rw [← hCm] at HAd HDo ⊢
    simp only at HAd HDo ⊢
    clear hon hx hCm
    clear h hD
    go_enter Tryd.func42, Tryd.ntmps42
    go_wp2_with (fail)
    have hbx := blk_new w (.cells #[.int .u8 d, .int .u16 a, .int .u16 b', .int .u16 st] 64)
    have hNw : Nw w (w.alloc (.cells #[.int .u8 d, .int .u16 a, .int .u16 b', .int .u16 st] 64)) := (Fr.refl _ _).alloc _
    obtain ⟨w1, hw1⟩ : ∃ w1, w1 = w.alloc (.cells #[.int .u8 d, .int .u16 a, .int .u16 b', .int .u16 st] 64) := ⟨_, rfl⟩
    rw [← hw1] at hbx hNw ⊢
    clear hw1
    have HBx := Lib.hid hbx
    have HNw := Lib.hid hNw
    have hb0 : w1.cell? ⟨w.heap.size, 0, none⟩ = some (.int .u8 d) := blk_cell hbx 0
    have hb1 : w1.cell? ⟨w.heap.size, 1, none⟩ = some (.int .u16 a) := blk_cell hbx 1
    have hb2 : w1.cell? ⟨w.heap.size, 2, none⟩ = some (.int .u16 b') := blk_cell hbx 2
    have hb3 : w1.cell? ⟨w.heap.size, 3, none⟩ = some (.int .u16 st) := blk_cell hbx 3
    clear hbx hNw
    go_wp2_with (first
      | (go_at_call 64; refine (HDo.out w1 (HB.out.nw HNw.out)).mono ?_; rintro e w5 ⟨rfl, hS5, hF5⟩; have hM5 := BM.set (HB.out.nw HNw.out) (HM.out.nw HNw.out) hF5; have hx5 := hF5.blk HBx.out (One.ne (by omega)); have hb0 : w5.cell? ⟨w.heap.size, 0, none⟩ = some (.int .u8 d) := blk_cell hx5 0; have hb1 : w5.cell? ⟨w.heap.size, 1, none⟩ = some (.int .u16 a) := blk_cell hx5 1; have hb2 : w5.cell? ⟨w.heap.size, 2, none⟩ = some (.int .u16 b') := blk_cell hx5 2; have hb3 : w5.cell? ⟨w.heap.size, 3, none⟩ = some (.int .u16 st) := blk_cell hx5 3; have HS5 := Lib.hid hS5; have HM5 := Lib.hid hM5; have HF5 := Lib.hid hF5; have HX5 := Lib.hid hx5; clear hx5 hS5 hM5 hF5)
      | (go_at_call 33; refine (HAd.out _ HM5.out).mono ?_; rintro e w6 ⟨rfl, hM6, hF6⟩; have HM6 := Lib.hid hM6; have HF6 := Lib.hid hF6; have HS6 := Lib.hid (HS5.out.bm HM5.out hF6); clear hM6 hF6))
    go_ret
    exact ⟨ret_bool (by simp), HM6.out, HS6.out, tri_fin HNw.out HF5.out HF6.out⟩
  · have hD := do_fill16 B d a b' st h
    have HDo := Lib.hid (fun W (hS : BS W s B) => set_do s c B d a b' st W hS hd ha hb hst)
    rw [hD] at HDo ⊢
    have e5 : (d : Int).tmod 5 = 2 := by rw [Int.tmod_eq_emod_of_nonneg (by omega)]; omega
    have e6 : (d : Int) % 5 = 2 := by omega
    have HAd := Lib.hid (fun W (h : BM W b p q B) => bm_fill b p q B a b' W h ha hb)
    obtain ⟨⟨C, m⟩, hCm⟩ : ∃ r, r = stepC B true a (b' + 1) := ⟨_, rfl⟩
    rw [← hCm] at HAd HDo ⊢
    simp only at HAd HDo ⊢
    clear hCm
    clear h hD
    go_enter Tryd.func42, Tryd.ntmps42
    go_wp2_with (fail)
    have hbx := blk_new w (.cells #[.int .u8 d, .int .u16 a, .int .u16 b', .int .u16 st] 64)
    have hNw : Nw w (w.alloc (.cells #[.int .u8 d, .int .u16 a, .int .u16 b', .int .u16 st] 64)) := (Fr.refl _ _).alloc _
    obtain ⟨w1, hw1⟩ : ∃ w1, w1 = w.alloc (.cells #[.int .u8 d, .int .u16 a, .int .u16 b', .int .u16 st] 64) := ⟨_, rfl⟩
    rw [← hw1] at hbx hNw ⊢
    clear hw1
    have HBx := Lib.hid hbx
    have HNw := Lib.hid hNw
    have hb0 : w1.cell? ⟨w.heap.size, 0, none⟩ = some (.int .u8 d) := blk_cell hbx 0
    have hb1 : w1.cell? ⟨w.heap.size, 1, none⟩ = some (.int .u16 a) := blk_cell hbx 1
    have hb2 : w1.cell? ⟨w.heap.size, 2, none⟩ = some (.int .u16 b') := blk_cell hbx 2
    have hb3 : w1.cell? ⟨w.heap.size, 3, none⟩ = some (.int .u16 st) := blk_cell hbx 3
    clear hbx hNw
    go_wp2_with (first
      | (go_at_call 64; refine (HDo.out w1 (HB.out.nw HNw.out)).mono ?_; rintro e w5 ⟨rfl, hS5, hF5⟩; have hM5 := BM.set (HB.out.nw HNw.out) (HM.out.nw HNw.out) hF5; have hx5 := hF5.blk HBx.out (One.ne (by omega)); have hb0 : w5.cell? ⟨w.heap.size, 0, none⟩ = some (.int .u8 d) := blk_cell hx5 0; have hb1 : w5.cell? ⟨w.heap.size, 1, none⟩ = some (.int .u16 a) := blk_cell hx5 1; have hb2 : w5.cell? ⟨w.heap.size, 2, none⟩ = some (.int .u16 b') := blk_cell hx5 2; have hb3 : w5.cell? ⟨w.heap.size, 3, none⟩ = some (.int .u16 st) := blk_cell hx5 3; have HS5 := Lib.hid hS5; have HM5 := Lib.hid hM5; have HF5 := Lib.hid hF5; have HX5 := Lib.hid hx5; clear hx5 hS5 hM5 hF5)
      | (go_at_call 23; refine (HAd.out _ HM5.out).mono ?_; rintro e w6 ⟨rfl, hM6, hF6⟩; have HM6 := Lib.hid hM6; have HF6 := Lib.hid hF6; have HS6 := Lib.hid (HS5.out.bm HM5.out hF6); clear hM6 hF6))
    go_ret
    exact ⟨ret_bool (by simp), HM6.out, HS6.out, tri_fin HNw.out HF5.out HF6.out⟩
  · have hD := do_wipe16 B d a b' st h
    have HDo := Lib.hid (fun W (hS : BS W s B) => set_do s c B d a b' st W hS hd ha hb hst)
    rw [hD] at HDo ⊢
    have e5 : (d : Int).tmod 5 = 3 := by rw [Int.tmod_eq_emod_of_nonneg (by omega)]; omega
    have e6 : (d : Int) % 5 = 3 := by omega
    have HAd := Lib.hid (fun W (h : BM W b p q B) => bm_wipe b p q B a b' W h ha hb)
    obtain ⟨⟨C, m⟩, hCm⟩ : ∃ r, r = stepC B false a (b' + 1) := ⟨_, rfl⟩
    rw [← hCm] at HAd HDo ⊢
    simp only at HAd HDo ⊢
    clear hCm
    clear h hD
    go_enter Tryd.func42, Tryd.ntmps42
    go_wp2_with (fail)
    have hbx := blk_new w (.cells #[.int .u8 d, .int .u16 a, .int .u16 b', .int .u16 st] 64)
    have hNw : Nw w (w.alloc (.cells #[.int .u8 d, .int .u16 a, .int .u16 b', .int .u16 st] 64)) := (Fr.refl _ _).alloc _
    obtain ⟨w1, hw1⟩ : ∃ w1, w1 = w.alloc (.cells #[.int .u8 d, .int .u16 a, .int .u16 b', .int .u16 st] 64) := ⟨_, rfl⟩
    rw [← hw1] at hbx hNw ⊢
    clear hw1
    have HBx := Lib.hid hbx
    have HNw := Lib.hid hNw
    have hb0 : w1.cell? ⟨w.heap.size, 0, none⟩ = some (.int .u8 d) := blk_cell hbx 0
    have hb1 : w1.cell? ⟨w.heap.size, 1, none⟩ = some (.int .u16 a) := blk_cell hbx 1
    have hb2 : w1.cell? ⟨w.heap.size, 2, none⟩ = some (.int .u16 b') := blk_cell hbx 2
    have hb3 : w1.cell? ⟨w.heap.size, 3, none⟩ = some (.int .u16 st) := blk_cell hbx 3
    clear hbx hNw
    go_wp2_with (first
      | (go_at_call 64; refine (HDo.out w1 (HB.out.nw HNw.out)).mono ?_; rintro e w5 ⟨rfl, hS5, hF5⟩; have hM5 := BM.set (HB.out.nw HNw.out) (HM.out.nw HNw.out) hF5; have hx5 := hF5.blk HBx.out (One.ne (by omega)); have hb0 : w5.cell? ⟨w.heap.size, 0, none⟩ = some (.int .u8 d) := blk_cell hx5 0; have hb1 : w5.cell? ⟨w.heap.size, 1, none⟩ = some (.int .u16 a) := blk_cell hx5 1; have hb2 : w5.cell? ⟨w.heap.size, 2, none⟩ = some (.int .u16 b') := blk_cell hx5 2; have hb3 : w5.cell? ⟨w.heap.size, 3, none⟩ = some (.int .u16 st) := blk_cell hx5 3; have HS5 := Lib.hid hS5; have HM5 := Lib.hid hM5; have HF5 := Lib.hid hF5; have HX5 := Lib.hid hx5; clear hx5 hS5 hM5 hF5)
      | (go_at_call 22; refine (HAd.out _ HM5.out).mono ?_; rintro e w6 ⟨rfl, hM6, hF6⟩; have HM6 := Lib.hid hM6; have HF6 := Lib.hid hF6; have HS6 := Lib.hid (HS5.out.bm HM5.out hF6); clear hM6 hF6))
    go_ret
    exact ⟨ret_bool (by simp), HM6.out, HS6.out, tri_fin HNw.out HF5.out HF6.out⟩
  · have hD := doB_steps B d a b' st h
    have HDo := Lib.hid (fun W (hS : BS W s B) => set_do s c B d a b' st W hS hd ha hb hst)
    rw [hD] at HDo ⊢
    have e5 : (d : Int).tmod 5 = 4 := by rw [Int.tmod_eq_emod_of_nonneg (by omega)]; omega
    have e6 : (d : Int) % 5 = 4 := by omega
    have HSt := Lib.hid (fun W => set_steps d a b' st W ha hb hst)
    have hlen := stepsL_len b' (2 + st % 9) _ a (Nat.le_refl _)
    have hmem := Lib.hid (stepsL_mem b' (2 + st % 9) _ a (Nat.le_refl _))
    obtain ⟨sl, hsl2⟩ : ∃ sl, sl = stepsL a b' (2 + st % 9) := ⟨_, rfl⟩
    rw [← hsl2] at HSt HDo hlen hmem ⊢
    obtain ⟨⟨C, m⟩, hCm⟩ : ∃ r, r = sl.foldl oneF (B, 0) := ⟨_, rfl⟩
    rw [← hCm] at HDo ⊢
    simp only at HDo ⊢
    have HCm := Lib.hid hCm
    have hml := oneF_le sl (B, 0)
    rw [← hCm] at hml
    simp only at hml
    clear h hD hsl2 hCm
    go_enter Tryd.func42, Tryd.ntmps42
    go_wp2_with (fail)
    have hbx := blk_new w (.cells #[.int .u8 d, .int .u16 a, .int .u16 b', .int .u16 st] 64)
    have hNw : Nw w (w.alloc (.cells #[.int .u8 d, .int .u16 a, .int .u16 b', .int .u16 st] 64)) := (Fr.refl _ _).alloc _
    obtain ⟨w1, hw1⟩ : ∃ w1, w1 = w.alloc (.cells #[.int .u8 d, .int .u16 a, .int .u16 b', .int .u16 st] 64) := ⟨_, rfl⟩
    rw [← hw1] at hbx hNw ⊢
    clear hw1
    have HBx := Lib.hid hbx
    have HNw := Lib.hid hNw
    have hb0 : w1.cell? ⟨w.heap.size, 0, none⟩ = some (.int .u8 d) := blk_cell hbx 0
    have hb1 : w1.cell? ⟨w.heap.size, 1, none⟩ = some (.int .u16 a) := blk_cell hbx 1
    have hb2 : w1.cell? ⟨w.heap.size, 2, none⟩ = some (.int .u16 b') := blk_cell hbx 2
    have hb3 : w1.cell? ⟨w.heap.size, 3, none⟩ = some (.int .u16 st) := blk_cell hbx 3
    clear hbx hNw
    go_wp2_with (first
      | (go_at_call 64; refine (HDo.out w1 (HB.out.nw HNw.out)).mono ?_; rintro e w5 ⟨rfl, hS5, hF5⟩; have hM5 := BM.set (HB.out.nw HNw.out) (HM.out.nw HNw.out) hF5; have hx5 := hF5.blk HBx.out (One.ne (by omega)); have hb0 : w5.cell? ⟨w.heap.size, 0, none⟩ = some (.int .u8 d) := blk_cell hx5 0; have hb1 : w5.cell? ⟨w.heap.size, 1, none⟩ = some (.int .u16 a) := blk_cell hx5 1; have hb2 : w5.cell? ⟨w.heap.size, 2, none⟩ = some (.int .u16 b') := blk_cell hx5 2; have hb3 : w5.cell? ⟨w.heap.size, 3, none⟩ = some (.int .u16 st) := blk_cell hx5 3; have HS5 := Lib.hid hS5; have HM5 := Lib.hid hM5; have HF5 := Lib.hid hF5; have HX5 := Lib.hid hx5; clear hx5 hS5 hM5 hF5)
      | (go_at_call 65; refine (HSt.out _).mono ?_; rintro e w6 ⟨v6, rfl, hR6, hB6⟩; have HR6 := Lib.hid hR6; obtain ⟨A6, c6, rfl, _, hC6⟩ := Kd.R_reads hR6; have HC6 := Lib.hid hC6; have HN6 := Lib.hid (Fr.of_below (S := fun _ => False) hB6); clear hR6 hB6 hC6))
    rw [ints_len] at HC6 ⊢
    have hbw := HM.out.blt
    have hqw := HM.out.st.qlt
    have hs5 : w.heap.size ≤ w5.heap.size := Nat.le_trans HNw.out.size HF5.out.size
    have HM6 := Lib.hid (HM5.out.nw HN6.out)
    have HS6 := Lib.hid (HS5.out.nw HN6.out)
    clear hb0 hb1 hb2 hb3
    have hb6 : b' + 1 - a ≤ 65536 := by omega
    go_loopw [8, 58] (fun n i wr => ∃ k j : Nat, k ≤ sl.length ∧ i = .int .i64 k ∧ n = .int .i64 j ∧ j ≤ k ∧ Hid (j = ((sl.take k).foldl oneF (B, 0)).2) ∧ Hid (BM wr b p q ((sl.take k).foldl oneF (B, 0)).1) ∧ Hid (BS wr s C) ∧ Hid (Fr (TwoB b q) w6 wr)) (fun _ i _ => sl.length - (intOf i).toNat)
    case atStart => exact ⟨0, 0, Nat.zero_le _, rfl, rfl, Nat.le_refl _, Lib.hid rfl, HM6, HS6, Lib.hid (Fr.refl _ _)⟩
    case round =>
      obtain ⟨k, j, hk, rfl, rfl, hjk, HJ, HMk, HSk, HFk⟩ := hrel
      by_cases hlt : k < sl.length
      · obtain ⟨g, cap, hv, hg, hgl, _⟩ := Kd.R_form HR6.out (by rw [ints_len]; omega)
        injection hv with hA hv1 hv2
        clear hv1 hv2
        obtain ⟨ad, hA2, hcell⟩ := at_nat (l := ints sl) (i := k) (by rw [ints_len]; exact HC6.out) (by rw [ints_len]; exact hlt)
        rw [hA] at hA2
        injection hA2 with hA2
        subst hA2
        rw [Addr.add_lit, Nat.zero_add] at hcell
        have hcell := HFk.out.cell hcell (by
          rintro (h | h)
          · have h : g = b := h
            omega
          · have h : g = q := h
            omega)
        have hv2 : (ints sl)[k]'(by rw [ints_len]; exact hlt) = ((sl[k] : Nat) : Int) := by simp [ints]
        rw [hv2] at hcell
        have hvb := hmem.out sl[k] (List.getElem_mem hlt)
        have HSn : Hid ((sl.take (k + 1)).foldl oneF (B, 0) = oneF ((sl.take k).foldl oneF (B, 0)) sl[k]) := Lib.hid (by rw [List.take_succ_eq_append_getElem hlt, List.foldl_append]; rfl)
        obtain ⟨v, hvv⟩ : ∃ v, v = sl[k] := ⟨_, rfl⟩
        rw [← hvv] at hcell hvb HSn
        have hv16 : v < 65536 := by omega
        subst hA
        have HAd := Lib.hid (fun W (h : BM W b p q ((sl.take k).foldl oneF (B, 0)).1) => bm_add b p q _ v W h hv16)
        have HOb := Lib.hid (one_bit ((sl.take k).foldl oneF (B, 0)).1 true v)
        obtain ⟨x, hx⟩ : ∃ x, x = ((sl.take k).foldl oneF (B, 0)).1.testBit v := ⟨_, rfl⟩
        rw [← hx] at HAd HOb
        clear hvv hvb hv2 hx hg hgl
        cases x
        all_goals
          go_wp2_with (go_at_call 32; refine (HAd.out _ HMk.out).mono ?_; rintro e w7 ⟨rfl, hM7, hF7⟩; have HM7 := Lib.hid hM7; have HF7 := Lib.hid hF7; have HS7 := Lib.hid (HSk.out.bm HMk.out hF7); clear hM7 hF7)
          go_roundw
          case rel => exact ⟨k + 1, _, by omega, by go_num, rfl, by first | omega | exact Nat.succ_le_succ hjk | exact Nat.le_succ_of_le hjk, Lib.hid (by rw [HSn.out]; show _ = _ + (stepC _ true v (v + 1)).2; rw [HOb.out, ← HJ.out]; first | rfl | simp), Lib.hid (by rw [HSn.out]; exact HM7.out), HS7, Lib.hid (HFk.out.trans HF7.out)⟩
          case measure => simp [intOf]; omega
      · have HT : Hid (sl.take k = sl) := Lib.hid (List.take_of_length_le (by omega))
        have hj2 : Hid (j = m) := Lib.hid (by rw [HJ.out, HT.out, ← HCm.out])
        go_wp2
        go_ret
        refine ⟨ret_bool (by rw [hj2.out]; simp), by have := HMk.out; rw [HT.out, ← HCm.out] at this; exact this, HSk.out, tri_fin HNw.out (HF5.out.trans (nw_any' HN6.out)) HFk.out⟩

/-! ### lay -/
abbrev Act4 : Type := Nat × Nat × Nat × Nat
def layB (l : List Act4) : Nat := l.foldl (fun B x => (doB B x.1 x.2.1 x.2.2.1 x.2.2.2).1) 0
theorem layB_snoc (l : List Act4) (k : Nat) (h : k < l.length) : layB (l.take (k + 1)) = (doB (layB (l.take k)) l[k].1 l[k].2.1 l[k].2.2.1 l[k].2.2.2).1 := by
  unfold layB
  rw [List.take_succ_eq_append_getElem h, List.foldl_append]; rfl
/-- A row of acts in memory. -/
def AC4 (W : World) (a : Option Addr) (l : List Act4) : Prop := ∀ k (h : k < l.length), ∃ g o, a = some ⟨g, o, none⟩ ∧ W.cell? ⟨g, o + k * 4, none⟩ = some (.int .u8 (l[k].1 : Nat)) ∧ W.cell? ⟨g, o + k * 4 + 1, none⟩ = some (.int .u16 (l[k].2.1 : Nat)) ∧ W.cell? ⟨g, o + k * 4 + 2, none⟩ = some (.int .u16 (l[k].2.2.1 : Nat)) ∧ W.cell? ⟨g, o + k * 4 + 3, none⟩ = some (.int .u16 (l[k].2.2.2 : Nat)) ∧
  l[k].1 < 256 ∧ l[k].2.1 < 65536 ∧ l[k].2.2.1 < 65536 ∧ l[k].2.2.2 < 65536
theorem AC4.nw {W W1 : World} {a : Option Addr} {l : List Act4} (h : AC4 W a l) (hf : Nw W W1) : AC4 W1 a l := fun k hk => by
  obtain ⟨g, o, h0, h1, h2, h3, h4, hb⟩ := h k hk
  exact ⟨g, o, h0, hf.cell h1 (fun h => h), hf.cell h2 (fun h => h), hf.cell h3 (fun h => h), hf.cell h4 (fun h => h), hb⟩

set_option maxRecDepth 100000 in
set_option maxHeartbeats 4000000 in
theorem blay_calls (a : Option Addr) (cap : Nat) (l : List Act4) (w : World) (hA : AC4 w a l) (hl : l.length ≤ 140737488351232) :
    Calls Tryd.prog 16 #[.slice a l.length cap] w fun e w' => ∃ b p q s c, e = .returned (.tuple #[.pointer (some ⟨b, 0, none⟩), .slice (some ⟨s, 0, none⟩) 65536 c, .bool true]) ∧ (w.heap.size ≤ b ∧ w.heap.size ≤ p ∧ w.heap.size ≤ q ∧ w.heap.size ≤ s) ∧
      BM w' b p q (layB (l.take 10)) ∧ BS w' s (layB (l.take 10)) ∧ Nw w w' := by
  have HA := Lib.hid hA
  clear hA
  go_enter Tryd.func16, Tryd.ntmps16
  go_wp2_with (first
    | (go_at_call 39; refine (bm_new _).mono ?_; rintro e w1 ⟨b, p, q, rfl, hbq, hM, hN⟩; have HM0 := Lib.hid hM; have HN0 := Lib.hid hN; have HBQ := Lib.hid hbq; clear hM hN hbq)
    | (go_at_call 40; refine (set_new _).mono ?_; rintro e w2 ⟨s, c, rfl, hs, hS, hN⟩; have HS0 := Lib.hid hS; have HN1 := Lib.hid hN; have HM1 := Lib.hid (HM0.out.nw hN); clear hS hN))
  have hsw : w.heap.size ≤ s := Nat.le_trans HN0.out.size hs
  have HN2 := Lib.hid (HN0.out.trans HN1.out)
  go_loopw [13] (fun ii wr => ∃ k : Nat, k ≤ l.length ∧ ii = .int .i64 k ∧ Hid (BM wr b p q (layB (l.take (min k 10)))) ∧ Hid (BS wr s (layB (l.take (min k 10)))) ∧ Hid (Nw w wr)) (fun ii _ => l.length - (intOf ii).toNat)
  case atStart => exact ⟨0, Nat.zero_le _, rfl, HM1, HS0, HN2⟩
  case round =>
    obtain ⟨k, hk, rfl, HM, HS, HN⟩ := hrel
    by_cases hlt : k < l.length
    · obtain ⟨g, o, rfl, c0, c1, c2, c3, hd, ha, hb, hst⟩ := HA.out k hlt
      have HLs := Lib.hid (layB_snoc l k hlt)
      obtain ⟨⟨d, a', b', st⟩, hact⟩ : ∃ y, y = l[k] := ⟨_, rfl⟩
      rw [← hact] at c0 c1 c2 c3 hd ha hb hst HLs
      clear hact
      simp only at c0 c1 c2 c3 hd ha hb hst
      have c0 := HN.out.cell c0 (fun h => h)
      have c1 := HN.out.cell c1 (fun h => h)
      have c2 := HN.out.cell c2 (fun h => h)
      have c3 := HN.out.cell c3 (fun h => h)
      by_cases h25 : k < 10
      · have h25' : (k : Int) < 10 := by omega
        have HLk : Hid (layB (l.take (min (k + 1) 10)) = (doB (layB (l.take (min k 10))) d a' b' st).1) := Lib.hid (by rw [show min (k + 1) 10 = k + 1 by omega, show min k 10 = k by omega]; exact HLs.out)
        go_wp2_with (go_at_call 42; refine (bdo_calls b p q s c _ d a' b' st _ (HM.out.nw ((Fr.refl (fun _ => False) _).alloc _)) (HS.out.nw ((Fr.refl _ _).alloc _)) hd ha hb hst).mono ?_; rintro e w5 ⟨rfl, hM5, hS5, hF5⟩; have HM5 := Lib.hid hM5; have HS5 := Lib.hid hS5; have HF5 := Lib.hid hF5; clear hM5 hS5 hF5)
        go_roundw
        case rel => exact ⟨k + 1, by omega, by go_num, Lib.hid (by rw [HLk.out]; exact HM5.out), Lib.hid (by rw [HLk.out]; exact HS5.out), Lib.hid ((HN.out.alloc _).trans_of HF5.out (fun y hy h => by have := HBQ.out; rcases h with rfl | rfl | rfl <;> omega))⟩
        case measure => simp [intOf]; omega
      · have h25' : ¬ (k : Int) < 10 := by omega
        have HLk : Hid (min (k + 1) 10 = min k 10) := Lib.hid (by omega)
        go_wp2
        go_roundw
        case rel => exact ⟨k + 1, by omega, by go_num, Lib.hid (by rw [HLk.out]; exact HM.out.nw ((Fr.refl (fun _ => False) _).alloc _)), Lib.hid (by rw [HLk.out]; exact HS.out.nw ((Fr.refl _ _).alloc _)), Lib.hid (HN.out.alloc _)⟩
        case measure => simp [intOf]; omega
    · have hE : l.take (min k 10) = l.take 10 := by
        rcases Nat.le_total k 10 with h | h
        · rw [Nat.min_eq_left h, List.take_of_length_le (by omega), List.take_of_length_le (by omega)]
        · rw [Nat.min_eq_right h]
      rw [hE] at HM HS
      clear hE
      go_wp2
      go_ret3
      have hbq := HBQ.out
      exact ⟨b, p, q, s, c, rfl, ⟨hbq.1, hbq.2.1, hbq.2.2, hsw⟩, HM.out, HS.out, HN.out⟩

/-! ### awake: the document's example -/
theorem seg_pow (B a D : Nat) (h : B < 2 ^ a) (haD : a ≤ D) : segN B 0 D = segN B 0 a := by
  rw [← seg_add B 0 a D (by omega) haD]
  have : segN B a D = 0 := by
    unfold segN
    rw [bits_nil B (D - a) a (fun k _ => big_tb h (by omega))]; rfl
  omega
theorem aw16 : ∃ N1 N2 : Nat, stepC 0 true 3 10 = (N1, 7) ∧ N1.testBit 5 = true ∧ (stepC N1 false 5 6).1 = N2 ∧ nextL (listB 1024 N2) 5 = 6 ∧ segN N2 0 65536 = 6 ∧ segN (runsN N2) 0 65536 = 2 := by
  refine ⟨1016, 984, by decide +kernel, by decide +kernel, by decide +kernel, ?_, ?_, ?_⟩
  · have := next_step 1024 984 5 (by decide +kernel)
    rw [show ((5 : Nat) : Int) = 5 from rfl] at this
    rw [this]
    exact next_here 1024 984 6 (by omega) (by decide +kernel)
  · rw [seg_pow 984 10 65536 (by decide) (by omega)]; decide +kernel
  · rw [show runsN 984 = 72 by decide +kernel, seg_pow 72 10 65536 (by decide) (by omega)]; decide +kernel

set_option maxRecDepth 100000 in
set_option maxHeartbeats 2000000 in
theorem bmawake_calls (w : World) (hT : Tb w) : Calls Tryd.prog 8 #[] w fun e w' => e = .returned (.bool true) ∧ Nw w w' := by
  obtain ⟨N1, N2, a1, a2, a3, a4, a5, a6⟩ := aw16
  have HT := Lib.hid hT
  have H1 := Lib.hid (fun (b p q : Nat) (W : World) (h : BM W b p q 0) => bm_fill b p q 0 3 9 W h (by omega) (by omega))
  have H2 := Lib.hid (fun (b p q : Nat) (W : World) (h : BM W b p q N1) => bm_drop b p q N1 5 W h (by omega))
  have H3 := Lib.hid (fun (b p q : Nat) (W : World) (h : BM W b p q N2) (hT : Tb W) => bm_next b p q N2 5 (by omega) W h hT)
  have H4 := Lib.hid (fun (b p q : Nat) (W : World) (h : BM W b p q N2) => bm_len b p q N2 W h)
  have H5 := Lib.hid (fun (b p q : Nat) (W : World) (h : BM W b p q N2) => bm_runs (some ⟨b, 0, none⟩) p q N2 W (.inl ⟨b, rfl, h⟩))
  rw [show (9 : Nat) + 1 = 10 from rfl, a1] at H1
  rw [a2, show (5 : Nat) + 1 = 6 from rfl, a3] at H2
  rw [show ((5 : Nat) : Int) = 5 from rfl, a4] at H3
  rw [a5] at H4
  rw [a6] at H5
  have H3 : Hid (∀ (b p q : Nat) (W : World) (h : BM W b p q N2) (hT : Tb W), Calls Tryd.prog 26 #[.pointer (some ⟨b, 0, none⟩), .int .u16 5] W fun e w' => e = .returned (.tuple #[.int .u16 6, .bool true]) ∧ Nw W w') := H3
  have H1 : Hid (∀ (b p q : Nat) (W : World) (h : BM W b p q 0), Calls Tryd.prog 23 #[.pointer (some ⟨b, 0, none⟩), .int .u16 3, .int .u16 9] W fun e w' => e = .returned (.int .i64 7) ∧ BM w' b p q N1 ∧ Fr (TwoB b q) W w') := H1
  have H2 : Hid (∀ (b p q : Nat) (W : World) (h : BM W b p q N1), Calls Tryd.prog 33 #[.pointer (some ⟨b, 0, none⟩), .int .u16 5] W fun e w' => e = .returned (.bool true) ∧ BM w' b p q N2 ∧ Fr (TwoB b q) W w') := H2
  have H4 : Hid (∀ (b p q : Nat) (W : World) (h : BM W b p q N2), Calls Tryd.prog 15 #[.pointer (some ⟨b, 0, none⟩)] W fun e w' => e = .returned (.int .i64 6) ∧ W = w') := H4
  have H5 : Hid (∀ (b p q : Nat) (W : World) (h : BM W b p q N2), Calls Tryd.prog 17 #[.pointer (some ⟨b, 0, none⟩)] W fun e w' => e = .returned (.int .i64 2) ∧ Nw W w') := H5
  clear a1 a2 a3 a4 a5 a6 hT
  go_enter Tryd.func8, Tryd.ntmps8
  go_wp2_with (first
    | (go_at_call 39; refine (bm_new _).mono ?_; rintro e w1 ⟨b, p, q, rfl, hbq, hM, hN⟩; have HM0 := Lib.hid hM; have HN0 := Lib.hid hN; have HBQ := Lib.hid hbq; clear hM hN hbq)
    | (go_at_call 23; refine (H1.out b p q _ HM0.out).mono ?_; rintro e w2 ⟨rfl, hM, hF⟩; have HM1 := Lib.hid hM; have HN1 := Lib.hid (HN0.out.trans_of hF (fun y hy h => by have := HBQ.out; rcases h with rfl | rfl <;> omega)); clear hM hF)
    | (go_at_call 33; refine (H2.out b p q _ HM1.out).mono ?_; rintro e w3 ⟨rfl, hM, hF⟩; have HM2 := Lib.hid hM; have HN2 := Lib.hid (HN1.out.trans_of hF (fun y hy h => by have := HBQ.out; rcases h with rfl | rfl <;> omega)); clear hM hF)
    | (go_at_call 26; refine (H3.out b p q _ HM2.out (HT.out.step HN2.out)).mono ?_; rintro e w4 ⟨rfl, hN⟩; have HM3 := Lib.hid (HM2.out.nw hN); have HN3 := Lib.hid (HN2.out.trans hN); clear hN)
    | (go_at_call 15; refine (H4.out b p q _ HM3.out).mono ?_; rintro e w5 ⟨rfl, rfl⟩)
    | (go_at_call 17; refine (H5.out b p q _ HM3.out).mono ?_; rintro e w6 ⟨rfl, hN⟩; have HN5 := Lib.hid (HN3.out.trans hN); clear hN))
  go_ret
  exact ⟨rfl, HN5.out⟩

end Go.Proofs.YtiekoidlibhoeaaDoor
