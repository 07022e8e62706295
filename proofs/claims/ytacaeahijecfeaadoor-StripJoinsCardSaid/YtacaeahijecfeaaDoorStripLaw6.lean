/-
  StripJoins: what one, and what all of any strips have is the document's; they are joined only if they are equally long.
-/
import Derived.Deep.CutRange
import Derived.Test.YtacaeahijecfeaaDoorStripJoin3
import Derived.Test.YtacaeahijecfeaaDoorStripAwake
import Derived.Test.YtacaeahijecfeaaDoorStripRow
import Derived.Test.YtacaeahijecfeaaDoorStripBits
import Derived.Test.YtacaeahijecfeaaDoorStripLaw2
namespace Go.Proofs.YtacaeahijecfeaaDoor
open Go.RowKit Go.Shelf Go.Proofs.YtacaeahijecfeaaDoorW.PrintWords Go.Proofs.YtacaeahijecfeaaDoorW.PrintMore
set_option linter.unusedVariables false
set_option linter.unusedSimpArgs false

/-- A strip (block p, words in q, the number B) and the document's: L numbers from A on. -/
structure JR where
  p : Nat
  q : Nat
  B : Nat
  L : Nat
  c : Nat
  A : Option Addr
/-- The strip, and the document's, which lies in the box x. -/
structure LW (W : World) (n x : Nat) (d : JR) : Prop where
  st : St W d.p d.q n d.B
  len : d.L = (listB n d.B).length
  list : Kd.C (Kd.int .i64) W d.A d.L (listB n d.B)
  box : W.heap[x]? = some (.cells #[.int .i64 n, .slice d.A d.L d.c] 27 (0, 0))
theorem LW.nw {W W1 : World} {n x : Nat} {d : JR} (h : LW W n x d) (hf : Nw W W1) : LW W1 n x d :=
  ⟨h.st.nw hf (fun h => h) (fun h => h), h.len, Kd.C_below h.list (hf.below (fun _ _ h => h)), hf.blk h.box (fun h => h)⟩
theorem LW.c0 {W : World} {n x : Nat} {d : JR} (h : LW W n x d) : W.cell? ⟨x, 0, none⟩ = some (.int .i64 n) := blk_cell h.box 0
theorem LW.c1 {W : World} {n x : Nat} {d : JR} (h : LW W n x d) : W.cell? ⟨x, 1, none⟩ = some (.slice d.A d.L d.c) := blk_cell h.box 1
/-- What a lay has left, when its result has come into a box. -/
theorem LW.made {W W' : World} {n p q B base : Nat} {A : Option Addr} {c : Nat} (hS : St W p q n B) (hR : Kd.R (Kd.int .i64) 3 W base (fun _ => True) (.slice A (listB n B).length c) (listB n B))
    (hf : Nw (W.alloc (.cells #[.int .i64 n, .slice A (listB n B).length c] 27)) W') : LW W' n W.heap.size ⟨p, q, B, (listB n B).length, c, A⟩ := by
  have h1 : Nw W W' := ((Fr.refl _ _).alloc _).trans hf
  refine ⟨hS.nw h1 (fun h => h) (fun h => h), rfl, ?_, hf.blk (blk_new _ _) (fun h => h)⟩
  obtain ⟨A', c', he, _, hC⟩ := Kd.R_reads hR
  cases he
  exact Kd.C_below hC (h1.below (fun _ _ h => h))
/-- The row of the document's strips. -/
def MR (W : World) (m n : Nat) (rs : List JR) : Prop := ∀ k (h : k < rs.length), W.cell? ⟨m, k * 2, none⟩ = some (.int .i64 n) ∧ W.cell? ⟨m, k * 2 + 1, none⟩ = some (.slice rs[k].A rs[k].L rs[k].c) ∧ rs[k].L = (listB n rs[k].B).length ∧ Kd.C (Kd.int .i64) W rs[k].A rs[k].L (listB n rs[k].B)
theorem MR.nw {W W1 : World} {m n : Nat} {rs : List JR} (h : MR W m n rs) (hf : Nw W W1) : MR W1 m n rs := fun k hk => by
  obtain ⟨h1, h2, h3, h4⟩ := h k hk
  exact ⟨hf.cell h1 (fun h => h), hf.cell h2 (fun h => h), h3, Kd.C_below h4 (hf.below (fun _ _ h => h))⟩

theorem rows_made {W W1 : World} {n x1 x2 x3 g m : Nat} {d1 d2 d3 : JR} (M : Nat) (hN : Nw W W1) (h1 : LW W n x1 d1) (h2 : LW W n x2 d2) (h3 : LW W n x3 d3)
    (hg : W1.heap[g]? = some (.cells #[.pointer (some ⟨d1.p, 0, none⟩), .pointer (some ⟨d2.p, 0, none⟩), .pointer (some ⟨d3.p, 0, none⟩)] 24 (0, 0)))
    (hm : W1.heap[m]? = some (.cells #[.int .i64 n, .slice d1.A d1.L d1.c, .int .i64 n, .slice d2.A d2.L d2.c, .int .i64 n, .slice d3.A d3.L d3.c] 27 (0, 0))) :
    PR W1 g n (([d1, d2, d3].take M).map fun d => (d.p, d.q, d.B)) ∧ MR W1 m n ([d1, d2, d3].take M) := by
  have k1 := h1.nw hN
  have k2 := h2.nw hN
  have k3 := h3.nw hN
  constructor
  · intro k hk
    have hk3 : k < 3 := by simp at hk; omega
    simp only [List.getElem_map, List.getElem_take]
    rcases (by omega : k = 0 ∨ k = 1 ∨ k = 2) with rfl | rfl | rfl
    · exact ⟨blk_cell hg 0, k1.st⟩
    · exact ⟨blk_cell hg 1, k2.st⟩
    · exact ⟨blk_cell hg 2, k3.st⟩
  · intro k hk
    have hk3 : k < 3 := by simp at hk; omega
    simp only [List.getElem_take]
    rcases (by omega : k = 0 ∨ k = 1 ∨ k = 2) with rfl | rfl | rfl
    · exact ⟨blk_cell hm 0, blk_cell hm 1, k1.len, k1.list⟩
    · exact ⟨blk_cell hm 2, blk_cell hm 3, k2.len, k2.list⟩
    · exact ⟨blk_cell hm 4, blk_cell hm 5, k3.len, k3.list⟩

/-- How many have the bit i. -/
def cntJ (bs : List Nat) (i : Nat) : Nat := bs.countP (·.testBit i)
theorem cntJ_snoc (bs : List Nat) (i j : Nat) (h : j < bs.length) : cntJ (bs.take (j + 1)) i = cntJ (bs.take j) i + if bs[j].testBit i then 1 else 0 := by
  unfold cntJ
  rw [List.take_succ_eq_append_getElem h, List.countP_append, List.countP_singleton]
theorem cntJ_le (bs : List Nat) (i j : Nat) : cntJ (bs.take j) i ≤ j := Nat.le_trans List.countP_le_length (by simp; omega)
theorem or_cnt (n : Nat) (bs : List Nat) (i : Nat) (hi : i < 64 * n) : getB n (joinL false n bs) i = decide ((0 : Int) < (cntJ bs i : Nat)) := by
  unfold getB inB joinL cntJ
  rw [decide_eq_true (by omega), Bool.true_and, if_neg (by simp), Int.toNat_natCast, orL_tb]
  rw [Bool.eq_iff_iff, List.any_eq_true, decide_eq_true_iff, show ((0 : Int) < (List.countP (fun x => x.testBit i) bs : Nat) ↔ 0 < List.countP (fun x => x.testBit i) bs) by omega, List.countP_pos_iff]
theorem and_cnt (n : Nat) (bs : List Nat) (i : Nat) (hi : i < 64 * n) : getB n (joinL true n bs) i = ((cntJ bs i : Int) == (bs.length : Int)) := by
  unfold getB inB joinL cntJ
  rw [decide_eq_true (by omega), Bool.true_and, if_pos rfl, Int.toNat_natCast, andL_tb, decide_eq_true hi, Bool.true_and]
  rw [Bool.eq_iff_iff, List.all_eq_true, beq_iff_eq, Int.ofNat_inj, List.countP_eq_length]
theorem list_eq_iff {n B C : Nat} (hB : B < 2 ^ (64 * n)) (hC : C < 2 ^ (64 * n)) : decide (wordsI n B = wordsI n C) = decide (listB n B = listB n C) := by
  apply decide_eq_decide.2
  constructor
  · intro h; rw [words_ext hB hC h]
  · intro h
    have : B = C := by
      apply Nat.eq_of_testBit_eq; intro j
      by_cases hj : j < 64 * n
      · have e1 := get_has n B j
        have e2 := get_has n C j
        rw [h, ← e2] at e1
        unfold getB inB at e1
        rw [decide_eq_true (by omega)] at e1
        simpa using e1
      · rw [big_tb hB (by omega), big_tb hC (by omega)]
    rw [this]
theorem words_ne (n B C : Nat) : decide (wordsI n B = wordsI (n + 1) C) = false := decide_eq_false (fun h => by
  have := congrArg List.length h
  rw [wordsI_len, wordsI_len] at this
  omega)

set_option maxRecDepth 100000 in
set_option maxHeartbeats 4000000 in
theorem joins_walk (b r8 : Nat) (a1 a2 a3 : Option Addr) (cap1 cap2 cap3 : Nat) (l1 l2 l3 : List Act3) (w : World) (hb : b < 256) (hr8 : r8 < 256) (hA1 : AC w a1 l1) (hA2 : AC w a2 l2) (hA3 : AC w a3 l3)
    (hl1 : l1.length ≤ 140737488351232) (hl2 : l2.length ≤ 140737488351232) (hl3 : l3.length ≤ 140737488351232) (hT : Tb w) :
    Calls Tryd.prog 6 #[.int .u8 b, .slice a1 l1.length cap1, .slice a2 l2.length cap2, .slice a3 l3.length cap3, .int .u8 r8] w fun e w' => e = .returned (.bool true) ∧ Nw w w' := by
  have e5 : (r8 : Int).tmod 3 = ((r8 % 3 : Nat) : Int) := by rw [Int.tmod_eq_emod_of_nonneg (by omega)]; rfl
  have e6 : (r8 : Int) % 3 = ((r8 % 3 : Nat) : Int) := rfl
  have hr9 : r8 % 3 < 3 := Nat.mod_lt _ (by decide)
  obtain ⟨r, hr⟩ : ∃ r, r = r8 % 3 := ⟨_, rfl⟩
  rw [← hr] at e5 e6 hr9
  clear hr
  have HT := Lib.hid hT
  have HA1 := Lib.hid hA1
  have HA2 := Lib.hid hA2
  have HA3 := Lib.hid hA3
  have HL1 := Lib.hid (fun W h => lay_calls b a1 cap1 l1 W hb h hl1)
  have HL2 := Lib.hid (fun W h => lay_calls b a2 cap2 l2 W hb h hl2)
  have HL3 := Lib.hid (fun W h => lay_calls b a3 cap3 l3 W hb h hl3)
  have hn5 : b % 5 < 5 := Nat.mod_lt _ (by decide)
  obtain ⟨n, hn⟩ : ∃ n, n = b % 5 := ⟨_, rfl⟩
  rw [← hn] at HL1 HL2 HL3 hn5
  obtain ⟨B1, hB1⟩ : ∃ B, B = layN n (l1.take 25) := ⟨_, rfl⟩
  obtain ⟨B2, hB2⟩ : ∃ B, B = layN n (l2.take 25) := ⟨_, rfl⟩
  obtain ⟨B3, hB3⟩ : ∃ B, B = layN n (l3.take 25) := ⟨_, rfl⟩
  rw [← hB1] at HL1
  rw [← hB2] at HL2
  rw [← hB3] at HL3
  clear hT hA1 hA2 hA3 hn hB1 hB2 hB3
  go_enter Tryd.func6, Tryd.ntmps6
  go_upto_region 6 with (first
    | (go_at_call 10; refine (awake_calls w HT.out).mono ?_; rintro e w1 ⟨rfl, hN1⟩; have HN1 := Lib.hid hN1; clear hN1)
    | (go_at_call 11; (with_reducible refine Calls.mono (HL1.out _ (HA1.out.nw HN1.out)) ?_); rintro e w2 ⟨p1, q1, A1, c1, rfl, hp, hq, hS, hR, hN⟩; have HN2 := Lib.hid (HN1.out.trans hN); have HS1 := Lib.hid hS; have HR1 := Lib.hid hR; clear hN hS hR hp hq)
    | (go_at_call 11; (with_reducible refine Calls.mono (HL2.out _ (HA2.out.nw (HN2.out.alloc _))) ?_); rintro e w4 ⟨p2, q2, A2, c2, rfl, hp, hq, hS, hR, hN⟩; have HM4 := Lib.hid hN; have HN4 := Lib.hid ((HN2.out.alloc _).trans hN); have HS2 := Lib.hid hS; have HR2 := Lib.hid hR; clear hN hS hR hp hq)
    | (go_at_call 11; (with_reducible refine Calls.mono (HL3.out _ (HA3.out.nw (HN4.out.alloc _))) ?_); rintro e w6 ⟨p3, q3, A3, c3, rfl, hp, hq, hS, hR, hN⟩; have HM6 := Lib.hid hN; have HN6 := Lib.hid ((HN4.out.alloc _).trans hN); have HS3 := Lib.hid hS; have HR3 := Lib.hid hR; clear hN hS hR hp hq))
  have HX3 : Hid (LW (w6.alloc (.cells #[.int .i64 n, .slice A3 (listB n B3).length c3] 27)) n w6.heap.size ⟨p3, q3, B3, (listB n B3).length, c3, A3⟩) := Lib.hid (LW.made HS3.out HR3.out (Fr.refl _ _))
  have HX2 : Hid (LW (w6.alloc (.cells #[.int .i64 n, .slice A3 (listB n B3).length c3] 27)) n w4.heap.size ⟨p2, q2, B2, (listB n B2).length, c2, A2⟩) := Lib.hid (LW.made HS2.out HR2.out (HM6.out.alloc _))
  have HX1 : Hid (LW (w6.alloc (.cells #[.int .i64 n, .slice A3 (listB n B3).length c3] 27)) n w2.heap.size ⟨p1, q1, B1, (listB n B1).length, c1, A1⟩) := Lib.hid (LW.made HS1.out HR1.out ((HM4.out.trans ((Fr.alloc (Fr.refl _ _) _).trans HM6.out)).alloc _))
  have HN7 : Hid (Nw w (w6.alloc (.cells #[.int .i64 n, .slice A3 (listB n B3).length c3] 27))) := Lib.hid (HN6.out.alloc _)
  obtain ⟨w7, hw7⟩ : ∃ w7, w7 = w6.alloc (.cells #[.int .i64 n, .slice A3 (listB n B3).length c3] 27) := ⟨_, rfl⟩
  rw [← hw7] at HX1 HX2 HX3 HN7 ⊢
  clear hw7 HM6 HM4 HN6 HN4 HN2 HS1 HS2 HS3 HR1 HR2 HR3 HL1 HL2 HL3 HA1 HA2 HA3
  obtain ⟨x1, hx1⟩ : ∃ x, x = w2.heap.size := ⟨_, rfl⟩
  obtain ⟨x2, hx2⟩ : ∃ x, x = w4.heap.size := ⟨_, rfl⟩
  obtain ⟨x3, hx3⟩ : ∃ x, x = w6.heap.size := ⟨_, rfl⟩
  obtain ⟨L1, hL1⟩ : ∃ x, x = (listB n B1).length := ⟨_, rfl⟩
  obtain ⟨L2, hL2⟩ : ∃ x, x = (listB n B2).length := ⟨_, rfl⟩
  obtain ⟨L3, hL3⟩ : ∃ x, x = (listB n B3).length := ⟨_, rfl⟩
  rw [← hx1, ← hL1] at HX1
  rw [← hx2, ← hL2] at HX2
  rw [← hx3, ← hL3] at HX3
  rw [← hx1, ← hx2, ← hx3, ← hL1, ← hL2, ← hL3]
  clear hx1 hx2 hx3 hL1 hL2 hL3
  obtain ⟨M, hM⟩ : ∃ M, M = 1 + r := ⟨_, rfl⟩
  obtain ⟨qs, hqs⟩ : ∃ qs : List JR, qs = [⟨p1, q1, B1, L1, c1, A1⟩, ⟨p2, q2, B2, L2, c2, A2⟩, ⟨p3, q3, B3, L3, c3, A3⟩] := ⟨_, rfl⟩
  have hM1 : 1 ≤ M ∧ M ≤ 3 := by omega
  have hqM : (qs.take M).length = M := by rw [List.length_take, hqs]; simp; omega
  have HQ := Lib.hid hqs
  have HQM := Lib.hid hqM
  have e7 : IntKind.u8.wrap (1 + (r : Int)) = (M : Int) := by simp [IntKind.wrap, IntKind.signed, IntKind.bits]; omega
  have e8 : (M : Int) ≤ 3 := by omega
  have e9 : (0 : Int) ≤ M := by omega
  clear hqs hqM hM
  go_cut [20, 21] from 61 to 76 (fun s20 s21 wx => ∃ g m : Nat, s20 = .slice (some ⟨g, 0, none⟩) M 3 ∧ s21 = .slice (some ⟨m, 0, none⟩) M 3 ∧ Hid (PR wx g n ((qs.take M).map fun d => (d.p, d.q, d.B))) ∧ Hid (MR wx m n (qs.take M)) ∧ Hid (Nw w7 wx))
  case first =>
    have z1 := HX1.out.c0
    have z2 := HX1.out.c1
    have z3 := HX2.out.c0
    have z4 := HX2.out.c1
    have z5 := HX3.out.c0
    have z6 := HX3.out.c1
    simp only at z1 z2 z3 z4 z5 z6
    have HN0 := Lib.hid ((Fr.refl (fun _ => False) w7).drew)
    go_region_held3 (fun w' => w'.cell? ⟨x1, 0, none⟩ = some (.int .i64 n) ∧ w'.cell? ⟨x1, 1, none⟩ = some (.slice A1 L1 c1) ∧ w'.cell? ⟨x2, 0, none⟩ = some (.int .i64 n) ∧ w'.cell? ⟨x2, 1, none⟩ = some (.slice A2 L2 c2) ∧ w'.cell? ⟨x3, 0, none⟩ = some (.int .i64 n) ∧ w'.cell? ⟨x3, 1, none⟩ = some (.slice A3 L3 c3))
      (first
        | exact ⟨z1, z2, z3, z4, z5, z6⟩
        | (go_split_ands; exact ⟨Fr.cell ((Fr.refl (fun _ => False) _).alloc _) (by assumption) (fun h => h), Fr.cell ((Fr.refl (fun _ => False) _).alloc _) (by assumption) (fun h => h), Fr.cell ((Fr.refl (fun _ => False) _).alloc _) (by assumption) (fun h => h), Fr.cell ((Fr.refl (fun _ => False) _).alloc _) (by assumption) (fun h => h), Fr.cell ((Fr.refl (fun _ => False) _).alloc _) (by assumption) (fun h => h), Fr.cell ((Fr.refl (fun _ => False) _).alloc _) (by assumption) (fun h => h)⟩)
        | (go_split_ands; exact ⟨by assumption, by assumption, by assumption, by assumption, by assumption, by assumption⟩))
      (fail)
    · go_wp2_with fail
      go_meet
      have hF : Nw w7 ((w7.alloc (.cells #[.pointer (some ⟨p1, 0, none⟩), .pointer (some ⟨p2, 0, none⟩), .pointer (some ⟨p3, 0, none⟩)] 24)).alloc (.cells #[.int .i64 n, .slice A1 L1 c1, .int .i64 n, .slice A2 L2 c2, .int .i64 n, .slice A3 L3 c3] 27)).drew := (((Fr.refl _ _).alloc _).alloc _).drew
      have hr := rows_made (g := w7.heap.size) (m := w7.heap.size + 1) M hF HX1.out HX2.out HX3.out (blk_drew (blk_alloc (blk_new _ _) _)) (blk_drew (by have := blk_new (w7.alloc (.cells #[.pointer (some ⟨p1, 0, none⟩), .pointer (some ⟨p2, 0, none⟩), .pointer (some ⟨p3, 0, none⟩)] 24)) (.cells #[.int .i64 n, .slice A1 L1 c1, .int .i64 n, .slice A2 L2 c2, .int .i64 n, .slice A3 L3 c3] 27); simpa using this))
      rw [← HQ.out] at hr
      exact ⟨_, _, rfl, rfl, Lib.hid hr.1, Lib.hid hr.2, Lib.hid hF⟩
    · go_wp2_with fail
      go_meet
      have hF : Nw w7 ((w7.alloc (.cells #[.int .i64 n, .slice A1 L1 c1, .int .i64 n, .slice A2 L2 c2, .int .i64 n, .slice A3 L3 c3] 27)).alloc (.cells #[.pointer (some ⟨p1, 0, none⟩), .pointer (some ⟨p2, 0, none⟩), .pointer (some ⟨p3, 0, none⟩)] 24)).drew := (((Fr.refl _ _).alloc _).alloc _).drew
      have hr := rows_made (g := w7.heap.size + 1) (m := w7.heap.size) M hF HX1.out HX2.out HX3.out (blk_drew (by have := blk_new (w7.alloc (.cells #[.int .i64 n, .slice A1 L1 c1, .int .i64 n, .slice A2 L2 c2, .int .i64 n, .slice A3 L3 c3] 27)) (.cells #[.pointer (some ⟨p1, 0, none⟩), .pointer (some ⟨p2, 0, none⟩), .pointer (some ⟨p3, 0, none⟩)] 24); simpa using this)) (blk_drew (blk_alloc (blk_new _ _) _))
      rw [← HQ.out] at hr
      exact ⟨_, _, rfl, rfl, Lib.hid hr.1, Lib.hid hr.2, Lib.hid hF⟩
  case rest =>
    obtain ⟨g, m, rfl, rfl, HP, HMr, HW⟩ := hcut
    obtain ⟨rs, hrs⟩ : ∃ rs, rs = qs.take M := ⟨_, rfl⟩
    rw [← hrs] at HP HMr HQM
    have hlen := HQM.out
    have KO := Lib.hid (fun W (h : Nw wc W) => sor_calls g 3 n (rs.map fun d => (d.p, d.q, d.B)) W (HP.out.nw h) (by rw [List.length_map]; omega) (by rw [List.length_map]; omega) (by omega))
    have KA := Lib.hid (fun W (h : Nw wc W) => sand_calls g 3 n (rs.map fun d => (d.p, d.q, d.B)) W (HP.out.nw h) (by rw [List.length_map]; omega) (by rw [List.length_map]; omega) (by omega))
    rw [List.length_map, hlen, List.map_map] at KO KA
    obtain ⟨bs, hbs⟩ : ∃ bs, bs = rs.map ((fun x : Nat × Nat × Nat => x.2.2) ∘ fun d : JR => (d.p, d.q, d.B)) := ⟨_, rfl⟩
    rw [← hbs] at KO KA
    have hbl : bs.length = M := by rw [hbs, List.length_map, hlen]
    have HBg : Hid (∀ k (h : k < rs.length) (h' : k < bs.length), bs[k] = rs[k].B) := Lib.hid (fun k h h' => by simp only [hbs, List.getElem_map]; rfl)
    have HJ1 := Lib.hid (or_cnt n bs)
    have HJ2 := Lib.hid (and_cnt n bs)
    rw [hbl] at HJ2
    obtain ⟨J1, hJ1⟩ : ∃ J, J = joinL false n bs := ⟨_, rfl⟩
    obtain ⟨J2, hJ2⟩ : ∃ J, J = joinL true n bs := ⟨_, rfl⟩
    rw [← hJ1] at KO HJ1
    rw [← hJ2] at KA HJ2
    have HBl := Lib.hid hbl
    clear hrs hlen hbs hbl hJ1 hJ2 HQ e5 e6 e7
    have hs : IntKind.i64.wrap (64 * (n : Int)) = 64 * (n : Int) := IntWalk.i64_in _ (by omega)
    go_wp2_with (first
      | (go_at_call 29; (with_reducible refine Calls.mono (KO.out _ (Fr.refl _ _)) ?_); rintro e wa ⟨pO, qO, rfl, hp, hq, hS, hN⟩; have HO := Lib.hid hS; have HWa := Lib.hid hN; clear hp hq hS hN)
      | (go_at_call 30; (with_reducible refine Calls.mono (KA.out _ HWa.out) ?_); rintro e wb ⟨pA, qA, rfl, hp, hq, hS, hN⟩; have HAb := Lib.hid hS; have HOb := Lib.hid (HO.out.nw hN (fun h => h) (fun h => h)); have HWb := Lib.hid (HWa.out.trans hN); clear hp hq hS hN))
    have HB7 := Lib.hid (HW.out.trans HWb.out)
    have HBc := Lib.hid HWb.out
    clear HWa HWb HO
    go_loopw [26] (fun ii wr => ∃ i : Nat, i ≤ 64 * n ∧ ii = .int .i64 i ∧ Hid (Nw wb wr)) (fun ii _ => 64 * n - (intOf ii).toNat)
    case atStart => exact ⟨0, Nat.zero_le _, rfl, Lib.hid (Fr.refl _ _)⟩
    case round =>
      obtain ⟨i, hi, rfl, HN⟩ := hrel
      have z1 := (HX1.out.nw (HB7.out.trans HN.out)).c0
      obtain ⟨W5, hW5⟩ : ∃ W5, W5 = wr := ⟨_, rfl⟩
      rw [← hW5] at z1 HN ⊢
      clear hW5
      by_cases hlt : i < 64 * n
      · have hlt' : (i : Int) < 64 * (n : Int) := by omega
        go_wp2
        go_loopw [27, 102] (fun kk jj wr2 => ∃ j : Nat, j ≤ M ∧ jj = .int .i64 j ∧ kk = .int .i64 (cntJ (bs.take j) i : Nat) ∧ Hid (Nw wb wr2)) (fun _ jj _ => M - (intOf jj).toNat)
        case atStart => exact ⟨0, Nat.zero_le _, rfl, by simp [cntJ], HN⟩
        case round =>
          obtain ⟨j, hj, rfl, rfl, HN2⟩ := hrel
          by_cases hlt2 : j < M
          · have hjr : j < rs.length := by rw [HQM.out]; exact hlt2
            have hjb : j < bs.length := by rw [HBl.out]; exact hlt2
            obtain ⟨y1, y2, y3, y4⟩ := (HMr.out.nw (HBc.out.trans HN2.out)) j hjr
            have hbj := HBg.out j hjr hjb
            have hsn := cntJ_snoc bs i j hjb
            rw [hbj] at hsn
            have hct := cntJ_le bs i j
            obtain ⟨⟨p, q, B, L, c, A⟩, hd⟩ : ∃ d, d = rs[j] := ⟨_, rfl⟩
            rw [← hd] at y2 y3 y4 hsn
            simp only at y2 y3 y4 hsn
            have hgh : hasL (listB n B) (i : Int) = B.testBit i := by rw [← get_has]; unfold getB inB; rw [decide_eq_true (by omega)]; simp
            have hLl : L ≤ 1000 := by have := listB_len n B; omega
            have KH := Lib.hid (fun W (h : Nw wr W) => has_calls A c (listB n B) (i : Int) W (by rw [← y3]; exact Kd.C_below y4 (h.below (fun _ _ h => h))) (by omega))
            rw [hgh, ← y3] at KH
            obtain ⟨t, ht⟩ : ∃ t, t = B.testBit i := ⟨_, rfl⟩
            rw [← ht] at KH hsn
            obtain ⟨ct, hct2⟩ : ∃ ct, ct = cntJ (bs.take j) i := ⟨_, rfl⟩
            rw [← hct2] at hsn hct ⊢
            clear hct2 ht hd hbj hjr hjb y3 y4 hgh hLl
            have hj3 : (j : Int) < M := by omega
            cases t
            · have HS := Lib.hid hsn
              clear hsn
              go_wp2_with (go_at_call 31; refine (KH.out _ ((Fr.refl _ _).alloc _)).mono ?_; rintro e wz ⟨rfl, rfl⟩)
              go_roundw
              case rel => exact ⟨j + 1, by omega, by go_num, by rw [HS.out]; simp, Lib.hid (HN2.out.alloc _)⟩
              case measure => simp [intOf]; omega
            · have HS := Lib.hid hsn
              clear hsn
              go_wp2_with (go_at_call 31; refine (KH.out _ ((Fr.refl _ _).alloc _)).mono ?_; rintro e wz ⟨rfl, rfl⟩)
              go_roundw
              case rel => exact ⟨j + 1, by omega, by go_num, by rw [HS.out]; simp, Lib.hid (HN2.out.alloc _)⟩
              case measure => simp [intOf]; omega
          · have hjM : j = M := by omega
            subst hjM
            have hct := cntJ_le bs i j
            have hbt : bs.take j = bs := List.take_of_length_le (by rw [HBl.out]; exact Nat.le_refl _)
            rw [hbt] at hct ⊢
            have K1 := Lib.hid (fun W (h : Nw wb W) => sget_calls (some ⟨pO, 0, none⟩) qO n J1 (i : Int) W (.inl ⟨pO, rfl, HOb.out.nw h (fun h => h) (fun h => h)⟩))
            have K2 := Lib.hid (fun W (h : Nw wb W) => sget_calls (some ⟨pA, 0, none⟩) qA n J2 (i : Int) W (.inl ⟨pA, rfl, HAb.out.nw h (fun h => h) (fun h => h)⟩))
            rw [HJ1.out i hlt] at K1
            rw [HJ2.out i hlt] at K2
            obtain ⟨ct, hct2⟩ : ∃ ct, ct = cntJ bs i := ⟨_, rfl⟩
            rw [← hct2] at K1 K2 hct ⊢
            clear hct2 hbt
            go_wp2_with (first
              | (go_at_call 32; (with_reducible refine Calls.mono (K1.out _ HN2.out) ?_); rintro e wz ⟨rfl, rfl⟩)
              | (go_at_call 32; (with_reducible refine Calls.mono (K2.out _ HN2.out) ?_); rintro e wz ⟨rfl, rfl⟩))
            go_roundw
            case rel => exact ⟨i + 1, by omega, by go_num, HN2⟩
            case measure => simp [intOf]; omega
      · have HN8 := Lib.hid (HB7.out.trans HN.out)
        have HN9 := Lib.hid (HN7.out.trans HN8.out)
        have KN := Lib.hid (fun W => new_calls (n + 1) W (by omega))
        rw [show ((n + 1 : Nat) : Int) = (n : Int) + 1 by omega] at KN
        have KS1 := Lib.hid (fun W (h : Nw w7 W) => (HX1.out.nw h))
        have KS2 := Lib.hid (fun W (h : Nw w7 W) => (HX2.out.nw h))
        clear HJ1 HJ2 KO KA HP HMr HBg HOb HAb HBl HQM
        go_upto_region 27 with (first
          | (go_at_call 33; refine (KN.out _).mono ?_; rintro e wd ⟨pv, qv, rfl, hp, hq, hS, hN⟩; have HVd := Lib.hid hS; have HNd := Lib.hid (HN8.out.trans hN); clear hp hq hS hN)
          | (go_at_call 29; refine (sor_bad wd.heap.size 2 p1 q1 n B1 _ _ (blk_cell (blk_new _ _) 0) (blk_cell (blk_new _ _) 1) (KS1.out _ (HNd.out.alloc _)).st (.inr ⟨pv, qv, n + 1, 0, rfl, HVd.out.nw ((Fr.refl (fun _ => False) _).alloc _) (fun h => h) (fun h => h), by omega⟩)).mono ?_; rintro e we ⟨rfl, hN⟩; have HNe := Lib.hid ((HNd.out.alloc _).trans hN); have HVe := Lib.hid (HVd.out.nw (((Fr.refl (fun _ => False) _).alloc _).trans hN) (fun h => h) (fun h => h)); clear hN)
          | (go_at_call 30; (with_reducible refine Calls.mono (sand_none _) ?_); rintro e wf ⟨rfl, hN⟩; have HNf := Lib.hid (HNe.out.trans hN); have HVf := Lib.hid (HVe.out.nw hN (fun h => h) (fun h => h)); clear hN)
          | (go_at_call 30; refine (sand_bad wf.heap.size 2 p1 q1 n B1 _ _ (blk_cell (blk_new _ _) 0) (blk_cell (blk_new _ _) 1) (KS1.out _ (HNf.out.alloc _)).st (.inl rfl)).mono ?_; rintro e wg ⟨rfl, hN⟩; have HNg := Lib.hid ((HNf.out.alloc _).trans hN); have HVg := Lib.hid (HVf.out.nw (((Fr.refl (fun _ => False) _).alloc _).trans hN) (fun h => h) (fun h => h)); clear hN))
        have hX1 := KS1.out _ HNg.out
        have hX2 := KS2.out _ HNg.out
        have z1 := hX1.c1
        have z2 := hX2.c1
        simp only at z1 z2
        have hl1 := hX1.len
        have hl2 := hX2.len
        simp only at hl1 hl2
        have E1 := Lib.hid (fun W (h : Nw wg W) => sequal_calls p1 q1 n B1 p2 q2 n B2 W (hX1.st.nw h (fun h => h) (fun h => h)) (hX2.st.nw h (fun h => h) (fun h => h)))
        have E2 := Lib.hid (fun W (h : Nw wg W) => sequal_calls p1 q1 n B1 pv qv (n + 1) 0 W (hX1.st.nw h (fun h => h) (fun h => h)) (HVg.out.nw h (fun h => h) (fun h => h)))
        have hlen1 := listB_len n B1
        have E3 := Lib.hid (fun W (h : Nw wg W) => same_calls A1 A2 c1 c2 (listB n B1) (listB n B2) W (by rw [← hl1]; exact Kd.C_below hX1.list (h.below (fun _ _ h => h))) (by rw [← hl2]; exact Kd.C_below hX2.list (h.below (fun _ _ h => h))) (by omega))
        rw [← hl1, ← hl2, ← list_eq_iff hX1.st.lt hX2.st.lt] at E3
        rw [words_ne] at E2
        obtain ⟨eq, heq⟩ : ∃ b, b = decide (wordsI n B1 = wordsI n B2) := ⟨_, rfl⟩
        rw [← heq] at E1 E3
        have HN10 := Lib.hid (HN7.out.trans HNg.out)
        clear hX1 hX2 hl1 hl2 hlen1 heq KS1 KS2 HN9 HN8 HNf HNe HNd HVd HVe HVf HVg
        go_region_held3 (fun w' => w'.cell? ⟨x1, 1, none⟩ = some (.slice A1 L1 c1) ∧ w'.cell? ⟨x2, 1, none⟩ = some (.slice A2 L2 c2) ∧ Nw wg w')
          (first
            | exact ⟨z1, z2, (Fr.refl (fun _ => False) wg).drew⟩
            | (go_split_ands; exact ⟨hF.cell (by assumption) (fun h => h), hF.cell (by assumption) (fun h => h), Fr.trans (by assumption) hF⟩)
            | (go_split_ands; exact ⟨by assumption, by assumption, by assumption⟩))
          (first
            | (go_at_call 27; (with_reducible refine Calls.mono (E1.out _ (by go_split_ands; assumption)) ?_); rintro e wh ⟨rfl, hF⟩)
            | (go_at_call 27; (with_reducible refine Calls.mono (E2.out _ (by go_split_ands; assumption)) ?_); rintro e wh ⟨rfl, hF⟩)
            | (go_at_call 21; refine (E3.out _ (by go_split_ands; assumption)).mono ?_; rintro e wh ⟨rfl, hF⟩))
        all_goals go_wp2
        all_goals go_ret
        all_goals exact ⟨by cases eq <;> rfl, Fr.trans HN10.out (by go_split_ands; assumption)⟩

/-- For the row. -/
theorem joins_row (x : Int) (a1 a2 a3 : Option Addr) (cap1 cap2 cap3 : Nat) (l1 l2 l3 : List Act3) (y : Int) (w : World) (hx : (Lit.int .u8 x).wf = true) (hy : (Lit.int .u8 y).wf = true) (hA1 : AC w a1 l1) (hA2 : AC w a2 l2) (hA3 : AC w a3 l3)
    (hl1 : l1.length ≤ 140737488351232) (hl2 : l2.length ≤ 140737488351232) (hl3 : l3.length ≤ 140737488351232) (hT : Tb w) :
    Calls Tryd.prog 6 #[.int .u8 x, .slice a1 l1.length cap1, .slice a2 l2.length cap2, .slice a3 l3.length cap3, .int .u8 y] w fun e w' => e = .returned (.bool true) ∧ Nw w w' := by
  have h := u8_bd hx
  have h2 := u8_bd hy
  obtain ⟨b, rfl⟩ : ∃ b : Nat, x = b := ⟨x.toNat, by omega⟩
  obtain ⟨st, rfl⟩ : ∃ b : Nat, y = b := ⟨y.toNat, by omega⟩
  exact joins_walk b st a1 a2 a3 cap1 cap2 cap3 l1 l2 l3 w (by omega) (by omega) hA1 hA2 hA3 hl1 hl2 hl3 hT

end Go.Proofs.YtacaeahijecfeaaDoor
