/-
  The contracts of the package bitmap: 65536 bits as one number B, and how many are set.
-/
import Derived.Test.YtiekoidlibhoeaaDoorBmPure2
import Derived.Test.YtiekoidlibhoeaaDoorStripSel
import Derived.Test.YtiekoidlibhoeaaDoorStripEq
import Derived.Test.YtiekoidlibhoeaaDoorStripAll
namespace Go.Proofs.YtiekoidlibhoeaaDoor
open Go.RowKit Go.Shelf Go.Proofs.YtiekoidlibhoeaaDoorW.PrintWords Go.Proofs.YtiekoidlibhoeaaDoorW.PrintMore
set_option linter.unusedVariables false
set_option linter.unusedSimpArgs false

def TwoB (a b : Nat) : Nat → Prop := fun k => k = a ∨ k = b
/-- Block b is a bitmap: its strip p, whose words lie in q, holds B. -/
structure BM (W : World) (b p q B : Nat) : Prop where
  st : St W p q 1024 B
  head : W.heap[b]? = some (.cells #[.pointer (some ⟨p, 0, none⟩), .int .i64 (segN B 0 65536 : Nat)] 62 (0, 0))
  nep : b ≠ p
  neq : b ≠ q
theorem BM.keep {W W1 : World} {b p q B : Nat} (h : BM W b p q B) (hk : ∀ k cs t m, (k = b ∨ k = p ∨ k = q) → W.heap[k]? = some (.cells cs t m) → W1.heap[k]? = some (.cells cs t m)) : BM W1 b p q B :=
  ⟨h.st.keep (fun k cs t m hkp => hk k cs t m (.inr hkp)), hk _ _ _ _ (.inl rfl) h.head, h.nep, h.neq⟩
theorem BM.fr {W W1 : World} {b p q B : Nat} (h : BM W b p q B) {S : Nat → Prop} (hf : Fr S W W1) (hb : ¬ S b) (hp : ¬ S p) (hq : ¬ S q) : BM W1 b p q B :=
  h.keep (fun k cs t m hk hc => hf.blk hc (by rcases hk with rfl | rfl | rfl <;> assumption))
theorem BM.nw {W W1 : World} {b p q B : Nat} (h : BM W b p q B) (hf : Nw W W1) : BM W1 b p q B := h.fr hf (fun h => h) (fun h => h) (fun h => h)
theorem BM.c0 {W : World} {b p q B : Nat} (h : BM W b p q B) : W.cell? ⟨b, 0, none⟩ = some (.pointer (some ⟨p, 0, none⟩)) := blk_cell h.head 0
theorem BM.c1 {W : World} {b p q B : Nat} (h : BM W b p q B) : W.cell? ⟨b, 1, none⟩ = some (.int .i64 (segN B 0 65536 : Nat)) := blk_cell h.head 1
theorem BM.fz {W : World} {b p q B : Nat} (h : BM W b p q B) : W.frozen? ⟨b, 1, none⟩ = false := blk_frozen h.head 1
theorem BM.blt {W : World} {b p q B : Nat} (h : BM W b p q B) : b < W.heap.size := blk_lt h.head
theorem BM.le {W : World} {b p q B : Nat} (_ : BM W b p q B) : segN B 0 65536 ≤ 65536 := seg_le B 0 65536
/-- The strip has turned; then the count is put right. -/
theorem BM.put {W W1 : World} {b p q B C : Nat} {m : Int} (h : BM W b p q B) (hs : St W1 p q 1024 C) (hf : Fr (One q) W W1) (hm : m = (segN C 0 65536 : Nat)) : BM (W1.setCell ⟨b, 1, none⟩ (.int .i64 m)) b p q C := by
  have h1 := hf.blk h.head (One.ne h.neq)
  subst hm
  exact ⟨hs.keep (fun k cs t m hk hc => blk_far hc (by have := h.nep; have := h.neq; rcases hk with rfl | rfl <;> simp <;> omega) _), by have := blk_set h1 1 (.int .i64 (segN C 0 65536 : Nat)); simpa using this, h.nep, h.neq⟩
theorem fr_two {W W1 : World} {b q : Nat} (hf : Fr (One q) W W1) (v : Value) : Fr (TwoB b q) W (W1.setCell ⟨b, 1, none⟩ v) :=
  ((Fr.refl (TwoB b q) W).trans_of hf (fun _ _ h => .inr h)).set (.inl rfl) 1 v
theorem BM.made {W : World} {p q B : Nat} {m : Int} (hs : St W p q 1024 B) (hm : m = (segN B 0 65536 : Nat)) : BM (W.alloc (.cells #[.pointer (some ⟨p, 0, none⟩), .int .i64 m] 62)) W.heap.size p q B := by
  subst hm
  have h1 := hs.plt
  have h2 := hs.qlt
  exact ⟨hs.nw ((Fr.refl (fun _ => False) _).alloc _) (fun h => h) (fun h => h), blk_new _ _, by omega, by omega⟩

set_option maxHeartbeats 1000000 in
theorem bm_new (w : World) : Calls Tryd.prog 39 #[] w fun e w' => ∃ b p q, e = .returned (.pointer (some ⟨b, 0, none⟩)) ∧ (w.heap.size ≤ b ∧ w.heap.size ≤ p ∧ w.heap.size ≤ q) ∧ BM w' b p q 0 ∧ Nw w w' := by
  go_enter Tryd.func39, Tryd.ntmps39
  have HC := Lib.hid (new_calls 1024 w (by omega))
  go_wp2_with (go_at_call 61; refine HC.out.mono ?_; rintro e w1 ⟨p, q, rfl, hp, hq, hS, hN⟩; have HS := Lib.hid hS; have HN := Lib.hid hN; clear hS hN)
  go_ret
  exact ⟨w1.heap.size, p, q, rfl, ⟨HN.out.size, hp, hq⟩, BM.made HS.out (by rw [← seg_all 0 65536 rfl, ← len_listB, listB_zero]; rfl), HN.out.alloc _⟩

set_option maxHeartbeats 1000000 in
theorem bm_of (A : Option Addr) (c : Nat) (B : Nat) (w : World) (hB : B < 2 ^ (64 * 1024)) (hr : Kd.C (Kd.int .u64) w A 1024 (wordsI 1024 B)) :
    Calls Tryd.prog 53 #[.slice A 1024 c] w fun e w' => ∃ b p q, e = .returned (.pointer (some ⟨b, 0, none⟩)) ∧ (w.heap.size ≤ b ∧ w.heap.size ≤ p ∧ w.heap.size ≤ q) ∧ BM w' b p q B ∧ Nw w w' := by
  have hl := wordsI_len 1024 B
  have HC := Lib.hid (of_calls A c (wordsI 1024 B) w (by rw [hl]; exact hr) (wordsI_bd 1024 B) (by omega))
  rw [hl] at HC
  have hbig : bigN (wordsI 1024 B) = B := by
    refine words_ext (n := 1024) (by have := bigN_lt (wordsI 1024 B) (wordsI_bd 1024 B); rwa [hl] at this) hB ?_
    have := bigN_words (wordsI 1024 B) (wordsI_bd 1024 B)
    rwa [hl] at this
  rw [hbig] at HC
  have hle := seg_le B 0 65536
  clear hr hB hl hbig
  go_enter Tryd.func53, Tryd.ntmps53
  go_wp2_with (first
    | (go_at_call 76; refine HC.out.mono ?_; rintro e w1 ⟨p, q, rfl, hp, hq, hS, hN⟩; have HS := Lib.hid hS; have HN := Lib.hid hN; have HX := Lib.hid (scount_calls (some ⟨p, 0, none⟩) q 1024 B w1 (.inl ⟨p, rfl, hS⟩)); rw [seg_all B 65536 rfl] at HX; clear hS hN)
    | (go_at_call 77; refine HX.out.mono ?_; rintro e w2 ⟨rfl, hN⟩; have HN2 := Lib.hid hN; clear hN))
  go_ret
  exact ⟨w2.heap.size, p, q, rfl, ⟨Nat.le_trans HN.out.size HN2.out.size, hp, hq⟩, BM.made (HS.out.nw HN2.out (fun h => h) (fun h => h)) rfl, (HN.out.trans HN2.out).alloc _⟩

/-! ### asked -/
set_option maxRecDepth 100000 in
set_option maxHeartbeats 1000000 in
theorem bm_has (b p q B : Nat) (v : Nat) (hv : v < 65536) (w : World) (h : BM w b p q B) (hT : Tb w) :
    Calls Tryd.prog 21 #[.pointer (some ⟨b, 0, none⟩), .int .u16 v] w fun e w' => e = .returned (.bool (B.testBit v)) ∧ Nw w w' := by
  have hc0 := h.c0
  have HS : Hid (SP w (some ⟨p, 0, none⟩) q 1024 B) := Lib.hid (.inl ⟨p, rfl, h.st⟩)
  have HX := Lib.hid (sget_calls (some ⟨p, 0, none⟩) q 1024 B (v : Int) w HS.out)
  rw [getB_nat B v hv] at HX
  clear h hT
  go_enter Tryd.func21, Tryd.ntmps21
  go_wp2_with (go_at_call 48; refine HX.out.mono ?_; rintro e w1 ⟨rfl, rfl⟩)
  go_ret
  exact ⟨rfl, Fr.refl _ _⟩
set_option maxRecDepth 100000 in
set_option maxHeartbeats 1000000 in
theorem bm_rank (b p q B : Nat) (v : Nat) (hv : v < 65536) (w : World) (h : BM w b p q B) (hT : Tb w) :
    Calls Tryd.prog 20 #[.pointer (some ⟨b, 0, none⟩), .int .u16 v] w fun e w' => e = .returned (.int .i64 (segN B 0 v : Nat)) ∧ Nw w w' := by
  have hc0 := h.c0
  have HS : Hid (SP w (some ⟨p, 0, none⟩) q 1024 B) := Lib.hid (.inl ⟨p, rfl, h.st⟩)
  have HX := Lib.hid (srank_calls (some ⟨p, 0, none⟩) q 1024 B (v : Int) w HS.out)
  rw [toN_nat v (64 * 1024) (by omega)] at HX
  clear h hT
  go_enter Tryd.func20, Tryd.ntmps20
  go_wp2_with (go_at_call 47; refine HX.out.mono ?_; rintro e w1 ⟨rfl, hN⟩)
  go_ret
  exact ⟨rfl, hN⟩

/-- A number, or none. -/
def toldV (i : Int) : Value := .tuple #[.int .u16 (if i < 0 then 0 else i), .bool (decide (0 ≤ i))]
theorem told_calls (i : Int) (w : World) (h : i < 65536) : Calls Tryd.prog 45 #[.int .i64 i] w fun e w' => e = .returned (toldV i) ∧ w = w' := by
  by_cases h0 : i < 0
  · have e : toldV i = .tuple #[.int .u16 0, .bool false] := by unfold toldV; rw [if_pos h0, decide_eq_false (by omega)]
    rw [e]
    clear e
    go_enter Tryd.func45, Tryd.ntmps45
    go_wp2
    go_ret2
    exact ⟨rfl, rfl⟩
  · have e : toldV i = .tuple #[.int .u16 i, .bool true] := by unfold toldV; rw [if_neg h0, decide_eq_true (by omega)]
    have e1 : IntKind.u16.wrap i = i := by simp [IntKind.wrap, IntKind.signed, IntKind.bits]; omega
    have hi : 0 ≤ i := by omega
    rw [e]
    clear e h0
    go_enter Tryd.func45, Tryd.ntmps45
    go_wp2
    go_ret2
    exact ⟨rfl, rfl⟩
set_option maxRecDepth 100000 in
set_option maxHeartbeats 1000000 in
theorem bm_next (b p q B : Nat) (v : Nat) (hv : v < 65536) (w : World) (h : BM w b p q B) (hT : Tb w) :
    Calls Tryd.prog 26 #[.pointer (some ⟨b, 0, none⟩), .int .u16 v] w fun e w' => e = .returned (toldV (nextL (listB 1024 B) v)) ∧ Nw w w' := by
  have hc0 := h.c0
  have HS : Hid (SP w (some ⟨p, 0, none⟩) q 1024 B) := Lib.hid (.inl ⟨p, rfl, h.st⟩)
  have HX := Lib.hid (snext_calls (some ⟨p, 0, none⟩) q 1024 B (v : Int) w HS.out hT)
  (have hbd := next_bd 1024 B (v : Int); obtain ⟨x, hx⟩ : ∃ x, x = nextL (listB 1024 B) v := ⟨_, rfl⟩; rw [← hx] at HX hbd ⊢; clear hx; have HTl := Lib.hid (fun W => told_calls x W (by omega)); obtain ⟨y, z, hyz⟩ : ∃ y z, toldV x = .tuple #[.int .u16 y, .bool z] := ⟨_, _, rfl⟩; rw [hyz] at HTl ⊢; clear hyz hbd)
  clear h hT
  go_enter Tryd.func26, Tryd.ntmps26
  go_wp2_with (first
    | (go_at_call 51; refine HX.out.mono ?_; rintro e w1 ⟨rfl, hN⟩; have HN := Lib.hid hN; clear hN)
    | (go_at_call 45; refine (HTl.out _).mono ?_; rintro e w2 ⟨rfl, rfl⟩))
  go_ret2
  exact ⟨rfl, HN.out⟩
set_option maxRecDepth 100000 in
set_option maxHeartbeats 1000000 in
theorem bm_prev (b p q B : Nat) (v : Nat) (hv : v < 65536) (w : World) (h : BM w b p q B) (hT : Tb w) :
    Calls Tryd.prog 28 #[.pointer (some ⟨b, 0, none⟩), .int .u16 v] w fun e w' => e = .returned (toldV (prevL (listB 1024 B) v)) ∧ Nw w w' := by
  have hc0 := h.c0
  have HS : Hid (SP w (some ⟨p, 0, none⟩) q 1024 B) := Lib.hid (.inl ⟨p, rfl, h.st⟩)
  have HX := Lib.hid (sprev_calls p q 1024 B (v : Int) w h.st)
  (have hbd := prev_b16 1024 B (v : Int); obtain ⟨x, hx⟩ : ∃ x, x = prevL (listB 1024 B) v := ⟨_, rfl⟩; rw [← hx] at HX hbd ⊢; clear hx; have HTl := Lib.hid (fun W => told_calls x W (by omega)); obtain ⟨y, z, hyz⟩ : ∃ y z, toldV x = .tuple #[.int .u16 y, .bool z] := ⟨_, _, rfl⟩; rw [hyz] at HTl ⊢; clear hyz hbd)
  clear h hT
  go_enter Tryd.func28, Tryd.ntmps28
  go_wp2_with (first
    | (go_at_call 52; refine HX.out.mono ?_; rintro e w1 ⟨rfl, hN⟩; have HN := Lib.hid hN; clear hN)
    | (go_at_call 45; refine (HTl.out _).mono ?_; rintro e w2 ⟨rfl, rfl⟩))
  go_ret2
  exact ⟨rfl, HN.out⟩
set_option maxRecDepth 100000 in
set_option maxHeartbeats 1000000 in
theorem bm_select (b p q B : Nat) (k : Int) (hk : k ≤ 9223372036854775807) (w : World) (h : BM w b p q B) (hT : Tb w) :
    Calls Tryd.prog 19 #[.pointer (some ⟨b, 0, none⟩), .int .i64 k] w fun e w' => e = .returned (toldV (selectL (listB 1024 B) k)) ∧ Nw w w' := by
  have hc0 := h.c0
  have HS : Hid (SP w (some ⟨p, 0, none⟩) q 1024 B) := Lib.hid (.inl ⟨p, rfl, h.st⟩)
  have HX := Lib.hid (sselect_calls p q 1024 B k w h.st hk)
  (have hbd := sel_bd 1024 B k; obtain ⟨x, hx⟩ : ∃ x, x = selectL (listB 1024 B) k := ⟨_, rfl⟩; rw [← hx] at HX hbd ⊢; clear hx; have HTl := Lib.hid (fun W => told_calls x W (by omega)); obtain ⟨y, z, hyz⟩ : ∃ y z, toldV x = .tuple #[.int .u16 y, .bool z] := ⟨_, _, rfl⟩; rw [hyz] at HTl ⊢; clear hyz hbd)
  clear h hT
  go_enter Tryd.func19, Tryd.ntmps19
  go_wp2_with (first
    | (go_at_call 46; refine HX.out.mono ?_; rintro e w1 ⟨rfl, hN⟩; have HN := Lib.hid hN; clear hN)
    | (go_at_call 45; refine (HTl.out _).mono ?_; rintro e w2 ⟨rfl, rfl⟩))
  go_ret2
  exact ⟨rfl, HN.out⟩
theorem bm_len (b p q B : Nat) (w : World) (h : BM w b p q B) : Calls Tryd.prog 15 #[.pointer (some ⟨b, 0, none⟩)] w fun e w' => e = .returned (.int .i64 (segN B 0 65536 : Nat)) ∧ w = w' := by
  have hc1 := h.c1
  clear h
  go_enter Tryd.func15, Tryd.ntmps15
  go_wp2
  go_ret
  exact ⟨rfl, rfl⟩

/-! ### turned -/
theorem sp_st {W : World} {p q n B : Nat} (h : SP W (some ⟨p, 0, none⟩) q n B) : St W p q n B := by
  rcases h with ⟨p', h1, h2⟩ | ⟨h1, _⟩
  · cases h1; exact h2
  · cases h1
theorem BM.same {W W1 : World} {b p q B : Nat} (h : BM W b p q B) (hs : St W1 p q 1024 B) (hf : Fr (One q) W W1) : BM W1 b p q B :=
  ⟨hs, hf.blk h.head (One.ne h.neq), h.nep, h.neq⟩
theorem fr_two' {W W1 : World} {b q : Nat} (hf : Fr (One q) W W1) : Fr (TwoB b q) W W1 := (Fr.refl (TwoB b q) W).trans_of hf (fun _ _ h => .inr h)
theorem bit_same (B : Nat) (s : Bool) (v : Nat) (h : B.testBit v = s) : (stepC B s v (v + 1)).1 = B := by
  apply Nat.eq_of_testBit_eq
  intro j
  rw [stepC_new B s v v j (Nat.le_refl _), stepC_start B s v v (Nat.le_refl _)]
  by_cases e : j = v
  · rw [if_pos e, e, h]
  · rw [if_neg e]
set_option maxRecDepth 100000 in
set_option maxHeartbeats 1000000 in
theorem bm_add (b p q B v : Nat) (w : World) (h : BM w b p q B) (hv : v < 65536) :
    Calls Tryd.prog 32 #[.pointer (some ⟨b, 0, none⟩), .int .u16 v] w fun e w' => e = .returned (.bool (!B.testBit v)) ∧ BM w' b p q (stepC B true v (v + 1)).1 ∧ Fr (TwoB b q) w w' := by
  have hc0 := h.c0
  have HH := Lib.hid h
  have HX := Lib.hid (sset_calls (some ⟨p, 0, none⟩) q 1024 B (v : Int) w (.inl ⟨p, rfl, h.st⟩))
  rw [setB_nat B v hv, inB_nat v hv, Bool.true_and, Int.toNat_natCast] at HX
  have HC := Lib.hid (cnt_fill B v (v + 1) 65536 (by omega))
  rw [one_bit] at HC
  have hle := h.le
  clear h
  have HSm := Lib.hid (bit_same B true v)
  obtain ⟨x, hx⟩ : ∃ x, x = B.testBit v := ⟨_, rfl⟩
  rw [← hx] at HX HC HSm ⊢
  clear hx
  cases x
  · go_enter Tryd.func32, Tryd.ntmps32
    go_wp2_with (go_at_call 54; refine HX.out.mono ?_; rintro e w1 ⟨rfl, hS, hF⟩; have HS := Lib.hid (sp_st hS); have HF := Lib.hid hF; have hc1 : w1.cell? ⟨b, 1, none⟩ = some (.int .i64 (segN B 0 65536 : Nat)) := blk_cell (hF.blk HH.out.head (One.ne HH.out.neq)) 1; have hfz : w1.frozen? ⟨b, 1, none⟩ = false := blk_frozen (hF.blk HH.out.head (One.ne HH.out.neq)) 1; clear hS hF)
    go_ret
    exact ⟨rfl, HH.out.put HS.out HF.out (by have := HC.out; simp at this; rw [this]; go_num), fr_two HF.out _⟩
  · have HSm2 := Lib.hid (HSm.out rfl)
    go_enter Tryd.func32, Tryd.ntmps32
    go_wp2_with (go_at_call 54; refine HX.out.mono ?_; rintro e w1 ⟨rfl, hS, hF⟩; have HS := Lib.hid (sp_st hS); have HF := Lib.hid hF; have hc1 : w1.cell? ⟨b, 1, none⟩ = some (.int .i64 (segN B 0 65536 : Nat)) := blk_cell (hF.blk HH.out.head (One.ne HH.out.neq)) 1; have hfz : w1.frozen? ⟨b, 1, none⟩ = false := blk_frozen (hF.blk HH.out.head (One.ne HH.out.neq)) 1; clear hS hF)
    go_ret
    exact ⟨rfl, by rw [HSm2.out]; exact HH.out.same (by have := HS.out; rwa [HSm2.out] at this) HF.out, fr_two' HF.out⟩
set_option maxRecDepth 100000 in
set_option maxHeartbeats 1000000 in
theorem bm_drop (b p q B v : Nat) (w : World) (h : BM w b p q B) (hv : v < 65536) :
    Calls Tryd.prog 33 #[.pointer (some ⟨b, 0, none⟩), .int .u16 v] w fun e w' => e = .returned (.bool (B.testBit v)) ∧ BM w' b p q (stepC B false v (v + 1)).1 ∧ Fr (TwoB b q) w w' := by
  have hc0 := h.c0
  have HH := Lib.hid h
  have HX := Lib.hid (sclear_calls (some ⟨p, 0, none⟩) q 1024 B (v : Int) w (.inl ⟨p, rfl, h.st⟩))
  rw [clrB_nat B v hv, getB_nat B v hv] at HX
  have HC := Lib.hid (cnt_wipe B v (v + 1) 65536 (by omega))
  rw [one_bit] at HC
  have hle := h.le
  clear h
  have HSm := Lib.hid (bit_same B false v)
  obtain ⟨x, hx⟩ : ∃ x, x = B.testBit v := ⟨_, rfl⟩
  rw [← hx] at HX HC HSm ⊢
  clear hx
  cases x
  · have HSm2 := Lib.hid (HSm.out rfl)
    go_enter Tryd.func33, Tryd.ntmps33
    go_wp2_with (go_at_call 55; refine HX.out.mono ?_; rintro e w1 ⟨rfl, hS, hF⟩; have HS := Lib.hid (sp_st hS); have HF := Lib.hid hF; have hc1 : w1.cell? ⟨b, 1, none⟩ = some (.int .i64 (segN B 0 65536 : Nat)) := blk_cell (hF.blk HH.out.head (One.ne HH.out.neq)) 1; have hfz : w1.frozen? ⟨b, 1, none⟩ = false := blk_frozen (hF.blk HH.out.head (One.ne HH.out.neq)) 1; clear hS hF)
    go_ret
    exact ⟨rfl, by rw [HSm2.out]; exact HH.out.same (by have := HS.out; rwa [HSm2.out] at this) HF.out, fr_two' HF.out⟩
  · go_enter Tryd.func33, Tryd.ntmps33
    have h1 : 1 ≤ segN B 0 65536 := by have := HC.out; simp at this; omega
    go_wp2_with (go_at_call 55; refine HX.out.mono ?_; rintro e w1 ⟨rfl, hS, hF⟩; have HS := Lib.hid (sp_st hS); have HF := Lib.hid hF; have hc1 : w1.cell? ⟨b, 1, none⟩ = some (.int .i64 (segN B 0 65536 : Nat)) := blk_cell (hF.blk HH.out.head (One.ne HH.out.neq)) 1; have hfz : w1.frozen? ⟨b, 1, none⟩ = false := blk_frozen (hF.blk HH.out.head (One.ne HH.out.neq)) 1; clear hS hF)
    go_ret
    exact ⟨rfl, HH.out.put HS.out HF.out (by have := HC.out; simp at this; omega), fr_two HF.out _⟩
set_option maxRecDepth 100000 in
set_option maxHeartbeats 1000000 in
theorem bm_fill (b p q B f t : Nat) (w : World) (h : BM w b p q B) (hf : f < 65536) (ht : t < 65536) :
    Calls Tryd.prog 23 #[.pointer (some ⟨b, 0, none⟩), .int .u16 f, .int .u16 t] w fun e w' => e = .returned (.int .i64 ((stepC B true f (t + 1)).2 : Nat)) ∧ BM w' b p q (stepC B true f (t + 1)).1 ∧ Fr (TwoB b q) w w' := by
  have hc0 := h.c0
  have HH := Lib.hid h
  have HX := Lib.hid (fill_calls (some ⟨p, 0, none⟩) q 1024 B (f : Int) ((t + 1 : Nat) : Int) w (.inl ⟨p, rfl, h.st⟩))
  rw [fromN_nat, toN_nat (t + 1) (64 * 1024) (by omega), show ((t + 1 : Nat) : Int) = (t : Int) + 1 by omega] at HX
  have HX : Hid (Calls Tryd.prog 50 #[.pointer (some ⟨p, 0, none⟩), .int .i64 f, .int .i64 ((t : Int) + 1)] w fun e w' => e = .returned (.int .i64 ((stepC B true f (t + 1)).2 : Nat)) ∧ SP w' (some ⟨p, 0, none⟩) q 1024 (stepC B true f (t + 1)).1 ∧ Fr (One q) w w') := HX
  have hC := cnt_fill B f (t + 1) 65536 (by omega)
  have hle := h.le
  have hle2 := seg_le (stepC B true f (t + 1)).1 0 65536
  obtain ⟨C, m, hCm⟩ : ∃ C m, stepC B true f (t + 1) = (C, m) := ⟨_, _, rfl⟩
  rw [hCm] at HX hC hle2 ⊢
  simp only at HX hC hle2 ⊢
  have HC := Lib.hid hC
  have hm : m ≤ 65536 := by omega
  have hm2 : m ≤ segN B 0 65536 ∨ m + segN B 0 65536 ≤ 65536 := by omega
  clear h hCm hC hm2
  go_enter Tryd.func23, Tryd.ntmps23
  go_wp2_with (go_at_call 50; refine HX.out.mono ?_; rintro e w1 ⟨rfl, hS, hF⟩; have HS := Lib.hid (sp_st hS); have HF := Lib.hid hF; have hc1 : w1.cell? ⟨b, 1, none⟩ = some (.int .i64 (segN B 0 65536 : Nat)) := blk_cell (hF.blk HH.out.head (One.ne HH.out.neq)) 1; have hfz : w1.frozen? ⟨b, 1, none⟩ = false := blk_frozen (hF.blk HH.out.head (One.ne HH.out.neq)) 1; clear hS hF)
  go_ret
  exact ⟨rfl, HH.out.put HS.out HF.out (by have := HC.out; omega), fr_two HF.out _⟩
set_option maxRecDepth 100000 in
set_option maxHeartbeats 1000000 in
theorem bm_wipe (b p q B f t : Nat) (w : World) (h : BM w b p q B) (hf : f < 65536) (ht : t < 65536) :
    Calls Tryd.prog 22 #[.pointer (some ⟨b, 0, none⟩), .int .u16 f, .int .u16 t] w fun e w' => e = .returned (.int .i64 ((stepC B false f (t + 1)).2 : Nat)) ∧ BM w' b p q (stepC B false f (t + 1)).1 ∧ Fr (TwoB b q) w w' := by
  have hc0 := h.c0
  have HH := Lib.hid h
  have HX := Lib.hid (wipe_calls (some ⟨p, 0, none⟩) q 1024 B (f : Int) ((t + 1 : Nat) : Int) w (.inl ⟨p, rfl, h.st⟩))
  rw [fromN_nat, toN_nat (t + 1) (64 * 1024) (by omega), show ((t + 1 : Nat) : Int) = (t : Int) + 1 by omega] at HX
  have HX : Hid (Calls Tryd.prog 49 #[.pointer (some ⟨p, 0, none⟩), .int .i64 f, .int .i64 ((t : Int) + 1)] w fun e w' => e = .returned (.int .i64 ((stepC B false f (t + 1)).2 : Nat)) ∧ SP w' (some ⟨p, 0, none⟩) q 1024 (stepC B false f (t + 1)).1 ∧ Fr (One q) w w') := HX
  have hC := cnt_wipe B f (t + 1) 65536 (by omega)
  have hle := h.le
  have hle2 := seg_le (stepC B false f (t + 1)).1 0 65536
  obtain ⟨C, m, hCm⟩ : ∃ C m, stepC B false f (t + 1) = (C, m) := ⟨_, _, rfl⟩
  rw [hCm] at HX hC hle2 ⊢
  simp only at HX hC hle2 ⊢
  have HC := Lib.hid hC
  have hm : m ≤ 65536 := by omega
  have hm2 : m ≤ segN B 0 65536 ∨ m + segN B 0 65536 ≤ 65536 := by omega
  clear h hCm hC hm2
  go_enter Tryd.func22, Tryd.ntmps22
  go_wp2_with (go_at_call 49; refine HX.out.mono ?_; rintro e w1 ⟨rfl, hS, hF⟩; have HS := Lib.hid (sp_st hS); have HF := Lib.hid hF; have hc1 : w1.cell? ⟨b, 1, none⟩ = some (.int .i64 (segN B 0 65536 : Nat)) := blk_cell (hF.blk HH.out.head (One.ne HH.out.neq)) 1; have hfz : w1.frozen? ⟨b, 1, none⟩ = false := blk_frozen (hF.blk HH.out.head (One.ne HH.out.neq)) 1; clear hS hF)
  go_ret
  exact ⟨rfl, HH.out.put HS.out HF.out (by have := HC.out; omega), fr_two HF.out _⟩

end Go.Proofs.YtiekoidlibhoeaaDoor
