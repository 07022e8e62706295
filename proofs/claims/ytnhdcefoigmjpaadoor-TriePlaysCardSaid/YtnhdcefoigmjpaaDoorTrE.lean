/-
  Merged by merge.py: TrNext TrPrev.
-/
import Derived.Test.YtnhdcefoigmjpaaDoorTrD
/-
  The contract of a trie's Next.
-/

namespace Go.Proofs.YtnhdcefoigmjpaaDoor
open Go.RowKit Go.Proofs.YtnhdcefoigmjpaaDoorW.PrintWords Go.Proofs.YtnhdcefoigmjpaaDoorW.PrintMore
attribute [local go_sem] max2_int min2_int max_two min_two
set_option linter.unusedVariables false
set_option linter.unusedSimpArgs false

theorem tb_meter {W : World} {m : Nat} {tk : Int} (hT : Tb W) (hm : MT W m tk) : 0 ≠ m := by
  rintro rfl
  obtain ⟨r, c, p, s, hb⟩ := hm
  have h0 := hT 0 (by decide)
  rw [blk_cell hb] at h0
  simp at h0
theorem Tb.meter {W W1 : World} {m : Nat} {tk : Int} (hT : Tb W) (hm : MT W m tk) (hf : Fr (One m) W W1) : Tb W1 := hT.fr hf (tb_meter hT hm)
theorem join_ten (k d : Nat) (hk : k < 18446744073709551616) (hd : d < 64) : bits .or .u64 (bits .andNot .u64 (k : Int) 63) (d : Int) = ((pre 10 k * 64 + d : Nat) : Int) := by
  have e0 : (k &&& notN 63) = 64 * pre 10 k := by
    have e1 : pre 10 k = k / 2 ^ 6 := rfl
    rw [e1]
    apply Nat.eq_of_testBit_eq
    intro j
    rw [Nat.testBit_and, show (64 : Nat) = 2 ^ 6 from rfl, Nat.testBit_two_pow_mul, Nat.testBit_div_two_pow]
    rw [tb_notN 63 (by omega) j, show (63 : Nat) = 2 ^ 6 - 1 from rfl, Nat.testBit_two_pow_sub_one]
    by_cases h6 : 6 ≤ j
    · rw [decide_eq_true (show j ≥ 6 from h6), Bool.true_and, Nat.sub_add_cancel h6, decide_eq_false (show ¬ j < 6 by omega)]
      by_cases h64 : j < 64
      · rw [decide_eq_true h64]; simp
      · rw [Nat.testBit_lt_two_pow (x := k) (Nat.lt_of_lt_of_le hk (show 18446744073709551616 ≤ 2 ^ j from (Nat.pow_le_pow_right (n := 2) (by omega) (by omega) : 2 ^ 64 ≤ 2 ^ j)))]
        simp
    · rw [decide_eq_false (show ¬ j ≥ 6 from h6), Bool.false_and, decide_eq_true (show j < 6 by omega)]
      simp
  have hp : 64 * pre 10 k ≤ k := by have := key_ten k; omega
  rw [show (63 : Int) = ((63 : Nat) : Int) from rfl, andNot_u64 k 63 hk (by omega), e0, or_u64 _ _ (by omega) (by omega), show 64 * pre 10 k = 2 ^ 6 * pre 10 k from rfl, ← Nat.two_pow_add_eq_or_of_lt (by omega)]
  rw [show (2 : Nat) ^ 6 = 64 from rfl, Nat.mul_comm]
theorem nxt_uniq {l : List Nat} {k a b : Nat} (h : IsNxt l k a) (g : IsNxt l k b) : a = b := by
  have h1 := h.2.2 b g.1 g.2.1
  have h2 := g.2.2 a h.1 h.2.1
  omega
theorem prv_uniq {l : List Nat} {k a b : Nat} (h : IsPrv l k a) (g : IsPrv l k b) : a = b := by
  have h1 := h.2.2 b g.1 g.2.1
  have h2 := g.2.2 a h.1 h.2.1
  omega
theorem ti_ok {W : World} {t m p lim root : Nat} {l : List Nat} {ad : Ad} {rows : List (Option Nd)} {free : List Nat} {cv fv : Value} (h : TI W t m p l lim ad rows free cv fv root) {i k : Nat} {x : Nd} (hi : i ≤ 10) (hz : cls l i (pre i k) ≠ []) (hx : rows[ad i (pre i k)]? = some (some x)) : NdOk W fv ad l i (pre i k) x := by
  obtain ⟨z, hz⟩ := List.exists_mem_of_ne_nil _ hz
  obtain ⟨h1, e⟩ := (mem_cls l i _ z).1 hz
  obtain ⟨y, h2, h3⟩ := h.at hi h1
  rw [e] at h2 h3
  rw [hx] at h2
  simp only [Option.some.injEq] at h2
  subst h2; exact h3
/-- What Next answers. -/
def nxtV (l : List Nat) (k : Nat) : Value := .tuple #[.int .u64 (((l[cntLt l k]?).getD 0 : Nat) : Int), .bool (l[cntLt l k]?).isSome]
set_option maxRecDepth 100000 in
set_option maxHeartbeats 8000000 in
theorem tnext_calls (t m p lim root : Nat) (l : List Nat) (ad : Ad) (rows : List (Option Nd)) (free : List Nat) (cv fv : Value) (tk : Int) (w : World) (h : TI w t m p l lim ad rows free cv fv root) (hm : MT w m tk) (k : Nat) (hk : k < 18446744073709551616) (hT : Tb w) :
    Calls Tryd.prog 14 #[.pointer (some ⟨t, 0, none⟩), .int .u64 k] w fun e w' => e = .returned (nxtV l k) ∧ TI w' t m p l lim ad rows free cv fv root ∧ (∃ tk' : Int, 0 ≤ tk' ∧ tk' ≤ 12 ∧ MT w' m tk') ∧ Fr (One m) w w' := by
  have HS := Lib.hid (fun w' (h : TI w' t m p l lim ad rows free cv fv root) (hm : MT w' m tk) => tstart_calls t m p lim root l ad rows free cv fv tk w' h hm)
  have H := Lib.hid h
  have HM := Lib.hid hm
  by_cases hne : l = []
  · have HNE : Hid (decide (l ≠ []) = false) := Lib.hid (by simp [hne])
    have HV : Hid (nxtV l k = .tuple #[.int .u64 0, .bool false]) := Lib.hid (by rw [hne]; rfl)
    clear h hm
    go_enter Tryd.func14, Tryd.ntmps14
    go_wp2_with (first | (go_at_call 40; refine (HS.out _ H.out HM.out).mono ?_; rintro e w1 ⟨rfl, ht1, hm1, hf1⟩; rw [HNE.out]))
    go_returns
    exact ⟨by rw [HV.out]; rfl, ht1, ⟨0, by omega, by omega, hm1⟩, hf1⟩
  have HNE : Hid (decide (l ≠ []) = true) := Lib.hid (by simp [hne])
  obtain ⟨z0, hz0⟩ := List.exists_mem_of_ne_nil _ hne
  obtain ⟨x0, hx0, hok0⟩ := h.at (i := 0) (by omega) hz0
  rw [pre_zero (h.bd z0 hz0), ← h.root hne] at hx0
  rw [pre_zero (h.bd z0 hz0)] at hok0
  have hcl := cls_root h.bd
  have hhi : x0.hi = l.getLastD 0 := by rw [hok0.hi, hcl]
  have HX0 := Lib.hid hx0
  have HRT := Lib.hid (h.root hne)
  have HT := Lib.hid hT
  have hup := h.up
  have hup2 := Lib.hid h.up
  have hml := hm.mlt
  have HEX : Hid (k ≤ x0.hi → ∃ mm, IsNxt l k mm) := Lib.hid (fun hle => by
    rw [hhi] at hle
    exact nxt_exists hup (last_mem hne 0) hle)
  have HBN : Hid (¬ k ≤ x0.hi → nxtV l k = .tuple #[.int .u64 0, .bool false]) := Lib.hid (fun hle => by
    rw [hhi] at hle
    have e := nxt_get_none hup (k := k) (fun x hx => by have := last_ge hup 0 hx; omega)
    unfold nxtV
    rw [List.getElem?_eq_none (by rw [e]; exact Nat.le_refl _)]; rfl)
  have HVS : Hid (∀ mm, IsNxt l k mm → nxtV l k = .tuple #[.int .u64 (mm : Nat), .bool true]) := Lib.hid (fun mm hm => by
    unfold nxtV; rw [nxt_get hup hm]; rfl)
  have HROK : Hid (∀ w' (h' : TI w' t m p l lim ad rows free cv fv root), NdOk w' fv ad l 0 (pre 0 k) x0) := Lib.hid (fun w' h' => by
    obtain ⟨x, h1, h2⟩ := h'.at (i := 0) (by omega) hz0
    rw [pre_zero (h'.bd z0 hz0), ← h'.root hne, HX0.out] at h1
    rw [pre_zero (h'.bd z0 hz0)] at h2
    simp only [Option.some.injEq] at h1
    subst h1
    rw [pre_zero hk]; exact h2)
  have HC0 : Hid (cls l 0 (pre 0 k) ≠ []) := Lib.hid (by rw [pre_zero hk, hcl]; exact hne)
  clear h hm hx0 hok0 hcl hhi hz0 hT hup
  go_enter Tryd.func14, Tryd.ntmps14
  go_wp2_with (first | (go_at_call 40; refine (HS.out _ H.out HM.out).mono ?_; rintro e w1 ⟨rfl, ht1, hm1, hf1⟩; rw [HNE.out]; have c1 : w1.cell? ⟨t, 1, none⟩ = some (.pointer (some ⟨p, 0, none⟩)) := blk_cell ht1.blk 1; have c2 : w1.cell? ⟨t, 2, none⟩ = some (.int .i64 root) := blk_cell ht1.blk 2; have HT1 := Lib.hid ht1; have HM1 := Lib.hid hm1; have HF1 := Lib.hid hf1; have hml1 := hm1.mlt; have htl1 := ht1.lt; clear ht1 hm1 hf1))
  go_cut [6, 7] from 19 to 30 (fun s6 s7 wx => ∃ b0 : Nat, s6 = .pointer (some ⟨b0, 0, none⟩) ∧ s7 = .bool true ∧ w1.heap.size ≤ b0 ∧ Hid (wx.heap[b0]? = some (.cells #[.int .u64 x0.b, .slice x0.ka x0.kn x0.kc, .int .i64 x0.n, .int .u64 x0.lo, .int .u64 x0.hi] 73)) ∧ Hid (MT wx m 1) ∧ Hid (Fr (One m) w1 wx))
  case first =>
    go_region_law ((go_simp; go_at_call 41; refine (pl_at p m rows free lim cv fv 0 _ (HT1.out.pl.nw (by first | exact (Fr.refl _ _).drew | exact ((Fr.refl _ _).drew).alloc _)) (HM1.out.fr (S := fun _ => False) (by first | exact (Fr.refl _ _).drew | exact ((Fr.refl _ _).drew).alloc _) (fun h => h)) (by omega) (by omega) root x0 HX0.out).mono ?_; rintro e w3 ⟨rfl, hm3, hf3⟩; have hs3 : w1.heap.size ≤ w3.heap.size := Nat.le_trans (by simp) hf3.size; have HM3 := Lib.hid hm3; have HF3 := Lib.hid hf3; (try (have hb4 : w3.heap[w1.heap.size]? = some (.cells #[.int .u64 0, .slice none 0 0, .int .i64 0, .int .u64 0, .int .u64 0] 73) := hf3.blk (blk_new w1.drew _) (by simp only [One]; omega); obtain ⟨r0, r1, r2, r3, r4⟩ := nd_cells hb4; have g0 := blk_frozen hb4 0; have g1 := blk_frozen hb4 1; have g2 := blk_frozen hb4 2; have g3 := blk_frozen hb4 3; have g4 := blk_frozen hb4 4; have HB4 := Lib.hid hb4; clear hb4)); clear hm3 hf3))
    all_goals go_simp
    all_goals go_wp2_with fail
    all_goals go_meet
    all_goals first
      | exact ⟨w1.heap.size, rfl, rfl, Nat.le_refl _, Lib.hid (blk_put5 HB4.out x0), Lib.hid (HM3.out.fr (fr_put5 w3 _ x0) (by simp only [One]; omega)), Lib.hid ((((Fr.refl _ w1).drew.alloc _).trans HF3.out).trans_new (fr_put5 w3 _ x0) (Nat.le_refl _))⟩
      | exact ⟨w3.heap.size, rfl, rfl, hs3, Lib.hid (blk_new w3 _), Lib.hid (HM3.out.fr (S := fun _ => False) ((Fr.refl _ w3).alloc _) (fun h => h)), Lib.hid (((Fr.refl _ w1).drew.trans HF3.out).alloc _)⟩
  case rest =>
    obtain ⟨b0, rfl, rfl, hb0, HB, HMx, HFx⟩ := hcut
    clear c1 c2
    obtain ⟨r0, r1, r2, r3, r4⟩ := nd_cells HB.out
    by_cases hle : k ≤ x0.hi
    · obtain ⟨mm, hmm⟩ := HEX.out hle
      have HV := Lib.hid (HVS.out mm hmm)
      have HMM := Lib.hid hmm
      have hle' : ¬ ((x0.hi : Int) < (k : Int)) := by omega
      have HLE := Lib.hid hle
      clear hmm
      go_wp2
      go_loopw [8, 9, 10, 11, 12, 13, 14, 15] (fun lv _ _ _ _ _ _ _ wr => ∃ (j : Nat) (x : Nd), j ≤ 10 ∧ lv = .int .i64 j ∧ Hid (wr.heap[b0]? = some (.cells #[.int .u64 x.b, .slice x.ka x.kn x.kc, .int .i64 x.n, .int .u64 x.lo, .int .u64 x.hi] 73)) ∧ Hid (rows[ad j (pre j k)]? = some (some x)) ∧ Hid (NdOk wr fv ad l j (pre j k) x) ∧ Hid (k ≤ x.hi) ∧ Hid (cls l j (pre j k) ≠ []) ∧ Hid (MT wr m ((j + 1 : Nat) : Int)) ∧ Hid (Fr (One m) w wr)) (fun lv _ _ _ _ _ _ _ _ => 10 - (intOf lv).toNat)
      case atStart => exact ⟨0, x0, by omega, rfl, HB, Lib.hid (by rw [pre_zero hk, ← HRT.out]; exact HX0.out), Lib.hid (HROK.out _ (H.out.meter HM.out (HF1.out.trans HFx.out))), HLE, HC0, HMx, Lib.hid (HF1.out.trans HFx.out)⟩
      case round =>
        clear r0 r1 r2 r3 r4
        obtain ⟨j, x, hj10, rfl, HBj, HXj, HOKj, HLEj, HCj, HMj, HFj⟩ := hrel
        have HTj := Lib.hid (H.out.meter HM.out HFj.out)
        obtain ⟨r0, r1, r2, r3, r4⟩ := nd_cells HBj.out
        by_cases hlo : k ≤ x.lo
        · have hlo' : (k : Int) ≤ x.lo := by omega
          have HE : Hid (x.lo = mm) := Lib.hid (by
            have e := nxt_head hup2.out HCj.out (by rw [← HOKj.out.lo]; exact hlo)
            rw [← HOKj.out.lo] at e
            exact nxt_uniq e HMM.out)
          go_wp2
          go_returns
          exact ⟨by rw [HV.out, ← HE.out]; rfl, HTj.out, ⟨_, by omega, by omega, HMj.out⟩, HFj.out⟩
        · have hlo' : ¬ ((k : Int) ≤ x.lo) := by omega
          have HAt := Lib.hid (fun w' => tat_calls k j w' hk hj10)
          by_cases h10 : j = 10
          · subst h10
            obtain ⟨m', q1, q2, q3⟩ := nxt_ten hup2.out HCj.out (by rw [← HOKj.out.hi]; exact HLEj.out)
            obtain rfl := nxt_uniq HMM.out q1
            have HBX := Lib.hid (fun w' (hT : Tb w') => bnext_calls x.b (dig 10 k : Nat) w' HOKj.out.bl hT)
            have HQ : Hid (nextL (listW x.b) (dig 10 k : Nat) = (dig 10 mm : Nat)) := Lib.hid (by rw [HOKj.out.b]; exact q2)
            have hdm := dig_lt 10 mm
            have HJ := Lib.hid (join_ten k (dig 10 mm) hk hdm)
            have HQ3 := Lib.hid q3
            clear q1 q2 q3
            go_wp2_with (first | (go_at_call 42; refine (HAt.out _).mono ?_; rintro e w' ⟨rfl, rfl⟩) | (go_at_call 43; refine (HBX.out _ (HT.out.meter HM.out HFj.out)).mono ?_; rintro e w' ⟨rfl, rfl⟩; rw [HQ.out]))
            go_returns
            exact ⟨by rw [HV.out]; show Ending.returned (.tuple #[.int .u64 (bits .or .u64 (bits .andNot .u64 (k : Int) 63) ((dig 10 mm : Nat) : Int)), .bool true]) = _; rw [HJ.out, ← HQ3.out], HTj.out, ⟨_, by omega, by omega, HMj.out⟩, HFj.out⟩
          · have hdk := dig_lt j k
            have h10' : ((j : Int) == 10) = false := by simp; omega
            have hb0l := blk_lt HBj.out
            have hb0m : b0 ≠ m := by obtain ⟨_, _, _, _, hx⟩ := HMj.out; exact typ_ne HBj.out hx (by decide)
            by_cases hcz : ∃ z, z ∈ l ∧ pre (j + 1) z = pre (j + 1) k
            · obtain ⟨z, hz1, hz2⟩ := id hcz
              obtain ⟨y, hy, hoky⟩ := HTj.out.at (i := j + 1) (by omega) hz1
              rw [hz2] at hy hoky
              have HY := Lib.hid hy
              have HK := Lib.hid (tkid_yes t m p lim root l ad rows free cv fv ((j + 1 : Nat) : Int) wr HTj.out HMj.out (by omega) (by omega) j k (by omega) x y HOKj.out hcz hy)
              have HOKy := Lib.hid hoky
              have HCY : Hid (cls l (j + 1) (pre (j + 1) k) ≠ []) := Lib.hid (fun e => by have := (mem_cls l (j + 1) (pre (j + 1) k) z).2 ⟨hz1, hz2⟩; rw [e] at this; cases this)
              clear hy hoky hz1 hz2 hcz
              by_cases hyh : k ≤ y.hi
              · have hyh' : (k : Int) ≤ y.hi := by omega
                go_wp2_with (first | (go_at_call 42; refine (HAt.out _).mono ?_; rintro e w' ⟨rfl, rfl⟩) | (go_at_call 44; refine HK.out.mono ?_; rintro e w3 ⟨rfl, hm3, hf3⟩; clear r0 r1 r2 r3 r4; have hb3 := hf3.blk HBj.out hb0m; obtain ⟨r0, r1, r2, r3, r4⟩ := nd_cells hb3; have g0 := blk_frozen hb3 0; have g1 := blk_frozen hb3 1; have g2 := blk_frozen hb3 2; have g3 := blk_frozen hb3 3; have g4 := blk_frozen hb3 4; have hbl3 := blk_lt hb3; have HB3 := Lib.hid hb3; have HM3 := Lib.hid hm3; have HF3 := Lib.hid hf3; clear hm3 hf3 hb3))
                go_roundw
                case rel =>
                  have hfw : Fr (One m) w ((((((w3.setCell ⟨b0, 0, none⟩ (.int .u64 y.b)).setCell ⟨b0, 1, none⟩ (.slice y.ka y.kn y.kc)).setCell ⟨b0, 2, none⟩ (.int .i64 y.n)).setCell ⟨b0, 3, none⟩ (.int .u64 y.lo)).setCell ⟨b0, 4, none⟩ (.int .u64 y.hi)).alloc (.cells #[.int .u64 y.b, .slice y.ka y.kn y.kc, .int .i64 y.n, .int .u64 y.lo, .int .u64 y.hi] 73)) := ((HFj.out.trans HF3.out).trans_new (fr_put5 w3 b0 y) (by have := HF1.out.size; omega)).alloc _
                  have hti := H.out.meter HM.out hfw
                  exact ⟨j + 1, y, by omega, by go_num, Lib.hid (blk_alloc (blk_put5 HB3.out y) _), HY, Lib.hid (ti_ok hti (by omega) HCY.out HY.out), Lib.hid hyh, HCY, Lib.hid ((HM3.out.fr (fr_put5 w3 b0 y) (by simp only [One]; omega)).fr (S := fun _ => False) ((Fr.refl _ _).alloc _) (fun h => h)), Lib.hid hfw⟩
                case measure => simp [intOf]; omega
              · have hyh' : ¬ ((k : Int) ≤ y.hi) := by omega
                have HCC : Hid (cls l (j + 1) (pre (j + 1) k) = [] ∨ (cls l (j + 1) (pre (j + 1) k)).getLastD 0 < k) := Lib.hid (.inr (by rw [← HOKy.out.hi]; omega))
                obtain ⟨m', q1, q2, q3, q4, q5⟩ := nxt_beyond hup2.out (i := j) (k := k) hj10 HCj.out (by rw [← HOKj.out.hi]; exact HLEj.out) HCC.out
                obtain rfl := nxt_uniq HMM.out q1
                have HPM : Hid (pre j mm = pre j k) := Lib.hid ((mem_cls l j _ mm).1 q2).2
                have HML : Hid (mm ∈ l) := Lib.hid ((mem_cls l j _ mm).1 q2).1
                obtain ⟨y2, hy2, hok2⟩ := HTj.out.at (i := j + 1) (by omega) HML.out
                have HBX := Lib.hid (fun w' (hT : Tb w') => bnext_calls x.b ((dig j k : Nat) + 1 : Int) w' HOKj.out.bl hT)
                have HQ : Hid (nextL (listW x.b) ((dig j k : Nat) + 1 : Int) = (dig j mm : Nat)) := Lib.hid (by rw [HOKj.out.b]; exact q3)
                have HLO : Hid (y2.lo = mm) := Lib.hid (by rw [hok2.lo, q4])
                have HK2 := Lib.hid (fun w' (h' : TI w' t m p l lim ad rows free cv fv root) (hm' : MT w' m (((j + 1 : Nat) : Int) + 1)) => tkid_yes t m p lim root l ad rows free cv fv (((j + 1 : Nat) : Int) + 1) w' h' hm' (by omega) (by omega) j mm (by omega) x y2 (by have e := ti_ok h' hj10 HCj.out HXj.out; rw [← HPM.out] at e; exact e) ⟨mm, HML.out, rfl⟩ hy2)
                clear q1 q2 q3 q4 q5 hy2 hok2
                go_wp2_with (first | (go_at_call 42; refine (HAt.out _).mono ?_; rintro e w' ⟨rfl, rfl⟩) | (go_at_call 44; refine HK.out.mono ?_; rintro e w3 ⟨rfl, hm3, hf3⟩; clear r0 r1 r2 r3 r4; have hb3 := hf3.blk HBj.out hb0m; obtain ⟨r0, r1, r2, r3, r4⟩ := nd_cells hb3; have g0 := blk_frozen hb3 0; have g1 := blk_frozen hb3 1; have g2 := blk_frozen hb3 2; have g3 := blk_frozen hb3 3; have g4 := blk_frozen hb3 4; have hbl3 := blk_lt hb3; have HB3 := Lib.hid hb3; have HM3 := Lib.hid hm3; have HF3 := Lib.hid (HFj.out.trans hf3); clear hm3 hf3 hb3))
                clear HS HNE HX0 HRT hup2 HEX HBN HVS HROK HC0 HAt HK HCC HPM HML HMM HLE HB HMx HFx
                have hs1 : IntKind.i64.wrap ((dig j k : Int) + 1) = (dig j k : Int) + 1 := IntWalk.i64_in _ (by omega)
                have hs2 : wrap64 ((dig j k : Int) + 1) = (dig j k : Int) + 1 := by unfold wrap64; omega
                go_region_law (first | (go_simp; go_at_call 43; refine (HBX.out _ (HT.out.meter HM.out (by first | exact (HF3.out.alloc _).drew | exact ((HF3.out.alloc _).drew).alloc _))).mono ?_; rintro e w' ⟨rfl, rfl⟩; rw [HQ.out]) | (go_simp; go_at_call 44; refine (HK2.out _ (H.out.meter HM.out (by first | exact (HF3.out.alloc _).drew | exact ((HF3.out.alloc _).drew).alloc _)) (HM3.out.fr (S := fun _ => False) (by first | exact ((Fr.refl _ _).alloc _).drew | exact (((Fr.refl _ _).alloc _).drew).alloc _) (fun h => h))).mono ?_; rintro e w5 ⟨rfl, hm5, hf5⟩; have hml5 := HM3.out.mlt; have hs5 : w3.heap.size + 1 ≤ w5.heap.size := Nat.le_trans (by simp) hf5.size; have HM5 := Lib.hid hm5; have HF5 := Lib.hid hf5; (try (have hb4 : w5.heap[w3.heap.size + 1]? = some (.cells #[.int .u64 0, .slice none 0 0, .int .i64 0, .int .u64 0, .int .u64 0] 73) := hf5.blk (blk_new2d w3 _ _) (by simp only [One]; omega); clear g0 g1 g2 g3 g4; obtain ⟨q0, q1, q2, q3, q4⟩ := nd_cells hb4; have g0 := blk_frozen hb4 0; have g1 := blk_frozen hb4 1; have g2 := blk_frozen hb4 2; have g3 := blk_frozen hb4 3; have g4 := blk_frozen hb4 4; have HB5 := Lib.hid hb4; clear hb4)); clear hm5 hf5))
                all_goals go_wp2
                all_goals go_returns
                all_goals first
                  | (have hfw : Fr (One m) w (((((w5.setCell ⟨w3.heap.size + 1, 0, none⟩ (.int .u64 y2.b)).setCell ⟨w3.heap.size + 1, 1, none⟩ (.slice y2.ka y2.kn y2.kc)).setCell ⟨w3.heap.size + 1, 2, none⟩ (.int .i64 y2.n)).setCell ⟨w3.heap.size + 1, 3, none⟩ (.int .u64 y2.lo)).setCell ⟨w3.heap.size + 1, 4, none⟩ (.int .u64 y2.hi)) := ((((HF3.out.alloc _).drew).alloc _).trans HF5.out).trans_new (fr_put5 w5 (w3.heap.size + 1) y2) (by have := HF3.out.size; omega)
                     exact ⟨by rw [HV.out, ← HLO.out]; rfl, H.out.meter HM.out hfw, ⟨_, by omega, by omega, HM5.out.fr (fr_put5 w5 (w3.heap.size + 1) y2) (by simp only [One]; omega)⟩, hfw⟩)
                  | (have hfw : Fr (One m) w (w5.alloc (.cells #[.int .u64 y2.b, .slice y2.ka y2.kn y2.kc, .int .i64 y2.n, .int .u64 y2.lo, .int .u64 y2.hi] 73)) := ((((HF3.out.alloc _).drew)).trans HF5.out).alloc _
                     exact ⟨by rw [HV.out, ← HLO.out]; rfl, H.out.meter HM.out hfw, ⟨_, by omega, by omega, HM5.out.fr (S := fun _ => False) ((Fr.refl _ w5).alloc _) (fun h => h)⟩, hfw⟩)
            · have HCC : Hid (cls l (j + 1) (pre (j + 1) k) = [] ∨ (cls l (j + 1) (pre (j + 1) k)).getLastD 0 < k) := Lib.hid (.inl (List.eq_nil_iff_forall_not_mem.2 (fun z hz => hcz ⟨z, (mem_cls l (j + 1) _ z).1 hz⟩)))
              have HK := Lib.hid (tkid_no t m p lim root l ad fv wr j k hj10 x HOKj.out hcz)
              clear hcz
              · obtain ⟨m', q1, q2, q3, q4, q5⟩ := nxt_beyond hup2.out (i := j) (k := k) hj10 HCj.out (by rw [← HOKj.out.hi]; exact HLEj.out) HCC.out
                obtain rfl := nxt_uniq HMM.out q1
                have HPM : Hid (pre j mm = pre j k) := Lib.hid ((mem_cls l j _ mm).1 q2).2
                have HML : Hid (mm ∈ l) := Lib.hid ((mem_cls l j _ mm).1 q2).1
                obtain ⟨y2, hy2, hok2⟩ := HTj.out.at (i := j + 1) (by omega) HML.out
                have HBX := Lib.hid (fun w' (hT : Tb w') => bnext_calls x.b ((dig j k : Nat) + 1 : Int) w' HOKj.out.bl hT)
                have HQ : Hid (nextL (listW x.b) ((dig j k : Nat) + 1 : Int) = (dig j mm : Nat)) := Lib.hid (by rw [HOKj.out.b]; exact q3)
                have HLO : Hid (y2.lo = mm) := Lib.hid (by rw [hok2.lo, q4])
                have HK2 := Lib.hid (fun w' (h' : TI w' t m p l lim ad rows free cv fv root) (hm' : MT w' m (((j + 1 : Nat) : Int))) => tkid_yes t m p lim root l ad rows free cv fv (((j + 1 : Nat) : Int)) w' h' hm' (by omega) (by omega) j mm (by omega) x y2 (by have e := ti_ok h' hj10 HCj.out HXj.out; rw [← HPM.out] at e; exact e) ⟨mm, HML.out, rfl⟩ hy2)
                clear q1 q2 q3 q4 q5 hy2 hok2
                go_wp2_with (first | (go_at_call 42; refine (HAt.out _).mono ?_; rintro e w' ⟨rfl, rfl⟩) | (go_at_call 44; refine HK.out.mono ?_; rintro e w3 ⟨rfl, hf3⟩; clear r0 r1 r2 r3 r4; have hb3 := hf3.blk HBj.out (fun h => h); obtain ⟨r0, r1, r2, r3, r4⟩ := nd_cells hb3; have g0 := blk_frozen hb3 0; have g1 := blk_frozen hb3 1; have g2 := blk_frozen hb3 2; have g3 := blk_frozen hb3 3; have g4 := blk_frozen hb3 4; have hbl3 := blk_lt hb3; have HB3 := Lib.hid hb3; have HM3 := Lib.hid (HMj.out.fr hf3 (fun h => h)); have HF3 := Lib.hid (HFj.out.trans (hf3.mono (fun _ _ h => h.elim))); clear hf3 hb3))
                clear HS HNE HX0 HRT hup2 HEX HBN HVS HROK HC0 HAt HK HCC HPM HML HMM HLE HB HMx HFx
                have hs1 : IntKind.i64.wrap ((dig j k : Int) + 1) = (dig j k : Int) + 1 := IntWalk.i64_in _ (by omega)
                have hs2 : wrap64 ((dig j k : Int) + 1) = (dig j k : Int) + 1 := by unfold wrap64; omega
                go_region_law (first | (go_simp; go_at_call 43; refine (HBX.out _ (HT.out.meter HM.out (by first | exact (HF3.out.alloc _).drew | exact ((HF3.out.alloc _).drew).alloc _))).mono ?_; rintro e w' ⟨rfl, rfl⟩; rw [HQ.out]) | (go_simp; go_at_call 44; refine (HK2.out _ (H.out.meter HM.out (by first | exact (HF3.out.alloc _).drew | exact ((HF3.out.alloc _).drew).alloc _)) (HM3.out.fr (S := fun _ => False) (by first | exact ((Fr.refl _ _).alloc _).drew | exact (((Fr.refl _ _).alloc _).drew).alloc _) (fun h => h))).mono ?_; rintro e w5 ⟨rfl, hm5, hf5⟩; have hml5 := HM3.out.mlt; have hs5 : w3.heap.size + 1 ≤ w5.heap.size := Nat.le_trans (by simp) hf5.size; have HM5 := Lib.hid hm5; have HF5 := Lib.hid hf5; (try (have hb4 : w5.heap[w3.heap.size + 1]? = some (.cells #[.int .u64 0, .slice none 0 0, .int .i64 0, .int .u64 0, .int .u64 0] 73) := hf5.blk (blk_new2d w3 _ _) (by simp only [One]; omega); clear g0 g1 g2 g3 g4; obtain ⟨q0, q1, q2, q3, q4⟩ := nd_cells hb4; have g0 := blk_frozen hb4 0; have g1 := blk_frozen hb4 1; have g2 := blk_frozen hb4 2; have g3 := blk_frozen hb4 3; have g4 := blk_frozen hb4 4; have HB5 := Lib.hid hb4; clear hb4)); clear hm5 hf5))
                all_goals go_wp2
                all_goals go_returns
                all_goals first
                  | (have hfw : Fr (One m) w (((((w5.setCell ⟨w3.heap.size + 1, 0, none⟩ (.int .u64 y2.b)).setCell ⟨w3.heap.size + 1, 1, none⟩ (.slice y2.ka y2.kn y2.kc)).setCell ⟨w3.heap.size + 1, 2, none⟩ (.int .i64 y2.n)).setCell ⟨w3.heap.size + 1, 3, none⟩ (.int .u64 y2.lo)).setCell ⟨w3.heap.size + 1, 4, none⟩ (.int .u64 y2.hi)) := ((((HF3.out.alloc _).drew).alloc _).trans HF5.out).trans_new (fr_put5 w5 (w3.heap.size + 1) y2) (by have := HF3.out.size; omega)
                     exact ⟨by rw [HV.out, ← HLO.out]; rfl, H.out.meter HM.out hfw, ⟨_, by omega, by omega, HM5.out.fr (fr_put5 w5 (w3.heap.size + 1) y2) (by simp only [One]; omega)⟩, hfw⟩)
                  | (have hfw : Fr (One m) w (w5.alloc (.cells #[.int .u64 y2.b, .slice y2.ka y2.kn y2.kc, .int .i64 y2.n, .int .u64 y2.lo, .int .u64 y2.hi] 73)) := ((((HF3.out.alloc _).drew)).trans HF5.out).alloc _
                     exact ⟨by rw [HV.out, ← HLO.out]; rfl, H.out.meter HM.out hfw, ⟨_, by omega, by omega, HM5.out.fr (S := fun _ => False) ((Fr.refl _ w5).alloc _) (fun h => h)⟩, hfw⟩)
    · have hle' : (x0.hi : Int) < (k : Int) := by omega
      have HV := Lib.hid (HBN.out hle)
      have HFw := Lib.hid (HF1.out.trans HFx.out)
      go_wp2
      go_returns
      exact ⟨by rw [HV.out]; rfl, H.out.meter HM.out HFw.out, ⟨1, by omega, by omega, HMx.out⟩, HFw.out⟩
end Go.Proofs.YtnhdcefoigmjpaaDoor

/-
  The contract of a trie's Prev.
-/

namespace Go.Proofs.YtnhdcefoigmjpaaDoor
open Go.RowKit Go.Proofs.YtnhdcefoigmjpaaDoorW.PrintWords Go.Proofs.YtnhdcefoigmjpaaDoorW.PrintMore
attribute [local go_sem] max2_int min2_int max_two min_two
set_option linter.unusedVariables false
set_option linter.unusedSimpArgs false

/-- What Prev answers. -/
def prvV (l : List Nat) (k : Nat) : Value := if k ∈ l then .tuple #[.int .u64 k, .bool true] else if cntLt l k = 0 then .tuple #[.int .u64 0, .bool false] else .tuple #[.int .u64 (((l[cntLt l k - 1]?).getD 0 : Nat) : Int), .bool true]
theorem prvV_some {l : List Nat} (h : Up l) {k m : Nat} (hm : IsPrv l k m) : prvV l k = .tuple #[.int .u64 (m : Nat), .bool true] := by
  unfold prvV
  by_cases hk : k ∈ l
  · rw [if_pos hk, prv_uniq hm ⟨hk, Nat.le_refl _, fun _ _ h => h⟩]
  · obtain ⟨h1, h2⟩ := prv_get h hm hk
    rw [if_neg hk, if_neg (by omega), h2]; rfl
theorem prvV_none {l : List Nat} {k : Nat} (hall : ∀ x, x ∈ l → k < x) : prvV l k = .tuple #[.int .u64 0, .bool false] := by
  unfold prvV
  rw [if_neg (fun hk => absurd (hall k hk) (Nat.lt_irrefl _)), if_pos (prv_get_none hall)]
set_option maxRecDepth 100000 in
set_option maxHeartbeats 8000000 in
theorem tprev_calls (t m p lim root : Nat) (l : List Nat) (ad : Ad) (rows : List (Option Nd)) (free : List Nat) (cv fv : Value) (tk : Int) (w : World) (h : TI w t m p l lim ad rows free cv fv root) (hm : MT w m tk) (k : Nat) (hk : k < 18446744073709551616) :
    Calls Tryd.prog 15 #[.pointer (some ⟨t, 0, none⟩), .int .u64 k] w fun e w' => e = .returned (prvV l k) ∧ TI w' t m p l lim ad rows free cv fv root ∧ (∃ tk' : Int, 0 ≤ tk' ∧ tk' ≤ 12 ∧ MT w' m tk') ∧ Fr (One m) w w' := by
  have HS := Lib.hid (fun w' (h : TI w' t m p l lim ad rows free cv fv root) (hm : MT w' m tk) => tstart_calls t m p lim root l ad rows free cv fv tk w' h hm)
  have H := Lib.hid h
  have HM := Lib.hid hm
  by_cases hne : l = []
  · have HNE : Hid (decide (l ≠ []) = false) := Lib.hid (by simp [hne])
    have HV : Hid (prvV l k = .tuple #[.int .u64 0, .bool false]) := Lib.hid (prvV_none (fun x hx => by rw [hne] at hx; cases hx))
    clear h hm
    go_enter Tryd.func15, Tryd.ntmps15
    go_wp2_with (first | (go_at_call 40; refine (HS.out _ H.out HM.out).mono ?_; rintro e w1 ⟨rfl, ht1, hm1, hf1⟩; rw [HNE.out]))
    go_returns
    exact ⟨by rw [HV.out]; rfl, ht1, ⟨0, by omega, by omega, hm1⟩, hf1⟩
  have HNE : Hid (decide (l ≠ []) = true) := Lib.hid (by simp [hne])
  obtain ⟨z0, hz0⟩ := List.exists_mem_of_ne_nil _ hne
  obtain ⟨x0, hx0, hok0⟩ := h.at (i := 0) (by omega) hz0
  rw [pre_zero (h.bd z0 hz0), ← h.root hne] at hx0
  rw [pre_zero (h.bd z0 hz0)] at hok0
  have hcl := cls_root h.bd
  have hhi : x0.lo = l.headD 0 := by rw [hok0.lo, hcl]
  have HX0 := Lib.hid hx0
  have HRT := Lib.hid (h.root hne)
  have hup := h.up
  have hup2 := Lib.hid h.up
  have hml := hm.mlt
  have HEX : Hid (x0.lo ≤ k → ∃ mm, IsPrv l k mm) := Lib.hid (fun hle => by
    rw [hhi] at hle
    exact prv_exists hup (head_mem hne 0) hle)
  have HBN : Hid (¬ x0.lo ≤ k → prvV l k = .tuple #[.int .u64 0, .bool false]) := Lib.hid (fun hle => by
    rw [hhi] at hle
    exact prvV_none (fun x hx => by have := head_le hup 0 hx; omega))
  have HVS : Hid (∀ mm, IsPrv l k mm → prvV l k = .tuple #[.int .u64 (mm : Nat), .bool true]) := Lib.hid (fun mm hm => prvV_some hup hm)
  have HROK : Hid (∀ w' (h' : TI w' t m p l lim ad rows free cv fv root), NdOk w' fv ad l 0 (pre 0 k) x0) := Lib.hid (fun w' h' => by
    obtain ⟨x, h1, h2⟩ := h'.at (i := 0) (by omega) hz0
    rw [pre_zero (h'.bd z0 hz0), ← h'.root hne, HX0.out] at h1
    rw [pre_zero (h'.bd z0 hz0)] at h2
    simp only [Option.some.injEq] at h1
    subst h1
    rw [pre_zero hk]; exact h2)
  have HC0 : Hid (cls l 0 (pre 0 k) ≠ []) := Lib.hid (by rw [pre_zero hk, hcl]; exact hne)
  clear h hm hx0 hok0 hcl hhi hz0 hup
  go_enter Tryd.func15, Tryd.ntmps15
  go_wp2_with (first | (go_at_call 40; refine (HS.out _ H.out HM.out).mono ?_; rintro e w1 ⟨rfl, ht1, hm1, hf1⟩; rw [HNE.out]; have c1 : w1.cell? ⟨t, 1, none⟩ = some (.pointer (some ⟨p, 0, none⟩)) := blk_cell ht1.blk 1; have c2 : w1.cell? ⟨t, 2, none⟩ = some (.int .i64 root) := blk_cell ht1.blk 2; have HT1 := Lib.hid ht1; have HM1 := Lib.hid hm1; have HF1 := Lib.hid hf1; have hml1 := hm1.mlt; have htl1 := ht1.lt; clear ht1 hm1 hf1))
  go_cut [6, 7] from 19 to 30 (fun s6 s7 wx => ∃ b0 : Nat, s6 = .pointer (some ⟨b0, 0, none⟩) ∧ s7 = .bool true ∧ w1.heap.size ≤ b0 ∧ Hid (wx.heap[b0]? = some (.cells #[.int .u64 x0.b, .slice x0.ka x0.kn x0.kc, .int .i64 x0.n, .int .u64 x0.lo, .int .u64 x0.hi] 73)) ∧ Hid (MT wx m 1) ∧ Hid (Fr (One m) w1 wx))
  case first =>
    go_region_law ((go_simp; go_at_call 41; refine (pl_at p m rows free lim cv fv 0 _ (HT1.out.pl.nw (by first | exact (Fr.refl _ _).drew | exact ((Fr.refl _ _).drew).alloc _)) (HM1.out.fr (S := fun _ => False) (by first | exact (Fr.refl _ _).drew | exact ((Fr.refl _ _).drew).alloc _) (fun h => h)) (by omega) (by omega) root x0 HX0.out).mono ?_; rintro e w3 ⟨rfl, hm3, hf3⟩; have hs3 : w1.heap.size ≤ w3.heap.size := Nat.le_trans (by simp) hf3.size; have HM3 := Lib.hid hm3; have HF3 := Lib.hid hf3; (try (have hb4 : w3.heap[w1.heap.size]? = some (.cells #[.int .u64 0, .slice none 0 0, .int .i64 0, .int .u64 0, .int .u64 0] 73) := hf3.blk (blk_new w1.drew _) (by simp only [One]; omega); obtain ⟨r0, r1, r2, r3, r4⟩ := nd_cells hb4; have g0 := blk_frozen hb4 0; have g1 := blk_frozen hb4 1; have g2 := blk_frozen hb4 2; have g3 := blk_frozen hb4 3; have g4 := blk_frozen hb4 4; have HB4 := Lib.hid hb4; clear hb4)); clear hm3 hf3))
    all_goals go_simp
    all_goals go_wp2_with fail
    all_goals go_meet
    all_goals first
      | exact ⟨w1.heap.size, rfl, rfl, Nat.le_refl _, Lib.hid (blk_put5 HB4.out x0), Lib.hid (HM3.out.fr (fr_put5 w3 _ x0) (by simp only [One]; omega)), Lib.hid ((((Fr.refl _ w1).drew.alloc _).trans HF3.out).trans_new (fr_put5 w3 _ x0) (Nat.le_refl _))⟩
      | exact ⟨w3.heap.size, rfl, rfl, hs3, Lib.hid (blk_new w3 _), Lib.hid (HM3.out.fr (S := fun _ => False) ((Fr.refl _ w3).alloc _) (fun h => h)), Lib.hid (((Fr.refl _ w1).drew.trans HF3.out).alloc _)⟩
  case rest =>
    obtain ⟨b0, rfl, rfl, hb0, HB, HMx, HFx⟩ := hcut
    clear c1 c2
    obtain ⟨r0, r1, r2, r3, r4⟩ := nd_cells HB.out
    by_cases hle : x0.lo ≤ k
    · obtain ⟨mm, hmm⟩ := HEX.out hle
      have HV := Lib.hid (HVS.out mm hmm)
      have HMM := Lib.hid hmm
      have hle' : ¬ ((k : Int) < (x0.lo : Int)) := by omega
      have HLE := Lib.hid hle
      clear hmm
      go_wp2
      go_loopw [8, 9, 10, 11, 12, 13, 14, 15] (fun lv _ _ _ _ _ _ _ wr => ∃ (j : Nat) (x : Nd), j ≤ 10 ∧ lv = .int .i64 j ∧ Hid (wr.heap[b0]? = some (.cells #[.int .u64 x.b, .slice x.ka x.kn x.kc, .int .i64 x.n, .int .u64 x.lo, .int .u64 x.hi] 73)) ∧ Hid (rows[ad j (pre j k)]? = some (some x)) ∧ Hid (NdOk wr fv ad l j (pre j k) x) ∧ Hid (x.lo ≤ k) ∧ Hid (cls l j (pre j k) ≠ []) ∧ Hid (MT wr m ((j + 1 : Nat) : Int)) ∧ Hid (Fr (One m) w wr)) (fun lv _ _ _ _ _ _ _ _ => 10 - (intOf lv).toNat)
      case atStart => exact ⟨0, x0, by omega, rfl, HB, Lib.hid (by rw [pre_zero hk, ← HRT.out]; exact HX0.out), Lib.hid (HROK.out _ (H.out.meter HM.out (HF1.out.trans HFx.out))), HLE, HC0, HMx, Lib.hid (HF1.out.trans HFx.out)⟩
      case round =>
        clear r0 r1 r2 r3 r4
        obtain ⟨j, x, hj10, rfl, HBj, HXj, HOKj, HLEj, HCj, HMj, HFj⟩ := hrel
        have HTj := Lib.hid (H.out.meter HM.out HFj.out)
        obtain ⟨r0, r1, r2, r3, r4⟩ := nd_cells HBj.out
        by_cases hlo : x.hi ≤ k
        · have hlo' : (x.hi : Int) ≤ k := by omega
          have HE : Hid (x.hi = mm) := Lib.hid (by
            have e := prv_last hup2.out HCj.out (by rw [← HOKj.out.hi]; exact hlo)
            rw [← HOKj.out.hi] at e
            exact prv_uniq e HMM.out)
          go_wp2
          go_returns
          exact ⟨by rw [HV.out, ← HE.out]; rfl, HTj.out, ⟨_, by omega, by omega, HMj.out⟩, HFj.out⟩
        · have hlo' : ¬ ((x.hi : Int) ≤ k) := by omega
          have HAt := Lib.hid (fun w' => tat_calls k j w' hk hj10)
          by_cases h10 : j = 10
          · subst h10
            obtain ⟨m', q1, q2, q3⟩ := prv_ten hup2.out HCj.out (by rw [← HOKj.out.lo]; exact HLEj.out)
            obtain rfl := prv_uniq HMM.out q1
            have HBX := Lib.hid (fun w' => bprev_calls x.b (dig 10 k : Nat) w' HOKj.out.bl)
            have HQ : Hid (prevL (listW x.b) (dig 10 k : Nat) = (dig 10 mm : Nat)) := Lib.hid (by rw [HOKj.out.b]; exact q2)
            have hdm := dig_lt 10 mm
            have HJ := Lib.hid (join_ten k (dig 10 mm) hk hdm)
            have HQ3 := Lib.hid q3
            clear q1 q2 q3
            go_wp2_with (first | (go_at_call 42; refine (HAt.out _).mono ?_; rintro e w' ⟨rfl, rfl⟩) | (go_at_call 45; refine (HBX.out _).mono ?_; rintro e w' ⟨rfl, rfl⟩; rw [HQ.out]))
            go_returns
            exact ⟨by rw [HV.out]; show Ending.returned (.tuple #[.int .u64 (bits .or .u64 (bits .andNot .u64 (k : Int) 63) ((dig 10 mm : Nat) : Int)), .bool true]) = _; rw [HJ.out, ← HQ3.out], HTj.out, ⟨_, by omega, by omega, HMj.out⟩, HFj.out⟩
          · have hdk := dig_lt j k
            have h10' : ((j : Int) == 10) = false := by simp; omega
            have hb0l := blk_lt HBj.out
            have hb0m : b0 ≠ m := by obtain ⟨_, _, _, _, hx⟩ := HMj.out; exact typ_ne HBj.out hx (by decide)
            by_cases hcz : ∃ z, z ∈ l ∧ pre (j + 1) z = pre (j + 1) k
            · obtain ⟨z, hz1, hz2⟩ := id hcz
              obtain ⟨y, hy, hoky⟩ := HTj.out.at (i := j + 1) (by omega) hz1
              rw [hz2] at hy hoky
              have HY := Lib.hid hy
              have HK := Lib.hid (tkid_yes t m p lim root l ad rows free cv fv ((j + 1 : Nat) : Int) wr HTj.out HMj.out (by omega) (by omega) j k (by omega) x y HOKj.out hcz hy)
              have HOKy := Lib.hid hoky
              have HCY : Hid (cls l (j + 1) (pre (j + 1) k) ≠ []) := Lib.hid (fun e => by have := (mem_cls l (j + 1) (pre (j + 1) k) z).2 ⟨hz1, hz2⟩; rw [e] at this; cases this)
              clear hy hoky hz1 hz2 hcz
              by_cases hyh : y.lo ≤ k
              · have hyh' : (y.lo : Int) ≤ k := by omega
                go_wp2_with (first | (go_at_call 42; refine (HAt.out _).mono ?_; rintro e w' ⟨rfl, rfl⟩) | (go_at_call 44; refine HK.out.mono ?_; rintro e w3 ⟨rfl, hm3, hf3⟩; clear r0 r1 r2 r3 r4; have hb3 := hf3.blk HBj.out hb0m; obtain ⟨r0, r1, r2, r3, r4⟩ := nd_cells hb3; have g0 := blk_frozen hb3 0; have g1 := blk_frozen hb3 1; have g2 := blk_frozen hb3 2; have g3 := blk_frozen hb3 3; have g4 := blk_frozen hb3 4; have hbl3 := blk_lt hb3; have HB3 := Lib.hid hb3; have HM3 := Lib.hid hm3; have HF3 := Lib.hid hf3; clear hm3 hf3 hb3))
                go_roundw
                case rel =>
                  have hfw : Fr (One m) w ((((((w3.setCell ⟨b0, 0, none⟩ (.int .u64 y.b)).setCell ⟨b0, 1, none⟩ (.slice y.ka y.kn y.kc)).setCell ⟨b0, 2, none⟩ (.int .i64 y.n)).setCell ⟨b0, 3, none⟩ (.int .u64 y.lo)).setCell ⟨b0, 4, none⟩ (.int .u64 y.hi)).alloc (.cells #[.int .u64 y.b, .slice y.ka y.kn y.kc, .int .i64 y.n, .int .u64 y.lo, .int .u64 y.hi] 73)) := ((HFj.out.trans HF3.out).trans_new (fr_put5 w3 b0 y) (by have := HF1.out.size; omega)).alloc _
                  have hti := H.out.meter HM.out hfw
                  exact ⟨j + 1, y, by omega, by go_num, Lib.hid (blk_alloc (blk_put5 HB3.out y) _), HY, Lib.hid (ti_ok hti (by omega) HCY.out HY.out), Lib.hid hyh, HCY, Lib.hid ((HM3.out.fr (fr_put5 w3 b0 y) (by simp only [One]; omega)).fr (S := fun _ => False) ((Fr.refl _ _).alloc _) (fun h => h)), Lib.hid hfw⟩
                case measure => simp [intOf]; omega
              · have hyh' : ¬ ((y.lo : Int) ≤ k) := by omega
                have HCC : Hid (cls l (j + 1) (pre (j + 1) k) = [] ∨ k < (cls l (j + 1) (pre (j + 1) k)).headD 0) := Lib.hid (.inr (by rw [← HOKy.out.lo]; omega))
                obtain ⟨m', q1, q2, q3, q4, q5⟩ := prv_beyond hup2.out (i := j) (k := k) hj10 HCj.out (by rw [← HOKj.out.lo]; exact HLEj.out) HCC.out
                obtain rfl := prv_uniq HMM.out q1
                have HPM : Hid (pre j mm = pre j k) := Lib.hid ((mem_cls l j _ mm).1 q2).2
                have HML : Hid (mm ∈ l) := Lib.hid ((mem_cls l j _ mm).1 q2).1
                obtain ⟨y2, hy2, hok2⟩ := HTj.out.at (i := j + 1) (by omega) HML.out
                have HBX := Lib.hid (fun w' => bprev_calls x.b ((dig j k : Nat) - 1 : Int) w' HOKj.out.bl)
                have HQ : Hid (prevL (listW x.b) ((dig j k : Nat) - 1 : Int) = (dig j mm : Nat)) := Lib.hid (by rw [HOKj.out.b]; exact q3)
                have HLO : Hid (y2.hi = mm) := Lib.hid (by rw [hok2.hi, q4])
                have HK2 := Lib.hid (fun w' (h' : TI w' t m p l lim ad rows free cv fv root) (hm' : MT w' m (((j + 1 : Nat) : Int) + 1)) => tkid_yes t m p lim root l ad rows free cv fv (((j + 1 : Nat) : Int) + 1) w' h' hm' (by omega) (by omega) j mm (by omega) x y2 (by have e := ti_ok h' hj10 HCj.out HXj.out; rw [← HPM.out] at e; exact e) ⟨mm, HML.out, rfl⟩ hy2)
                clear q1 q2 q3 q4 q5 hy2 hok2
                go_wp2_with (first | (go_at_call 42; refine (HAt.out _).mono ?_; rintro e w' ⟨rfl, rfl⟩) | (go_at_call 44; refine HK.out.mono ?_; rintro e w3 ⟨rfl, hm3, hf3⟩; clear r0 r1 r2 r3 r4; have hb3 := hf3.blk HBj.out hb0m; obtain ⟨r0, r1, r2, r3, r4⟩ := nd_cells hb3; have g0 := blk_frozen hb3 0; have g1 := blk_frozen hb3 1; have g2 := blk_frozen hb3 2; have g3 := blk_frozen hb3 3; have g4 := blk_frozen hb3 4; have hbl3 := blk_lt hb3; have HB3 := Lib.hid hb3; have HM3 := Lib.hid hm3; have HF3 := Lib.hid (HFj.out.trans hf3); clear hm3 hf3 hb3))
                clear HS HNE HX0 HRT hup2 HEX HBN HVS HROK HC0 HAt HK HCC HPM HML HMM HLE HB HMx HFx
                have hs1 : IntKind.i64.wrap ((dig j k : Int) - 1) = (dig j k : Int) - 1 := IntWalk.i64_in _ (by omega)
                have hs2 : wrap64 ((dig j k : Int) - 1) = (dig j k : Int) - 1 := by unfold wrap64; omega
                go_region_law (first | (go_simp; go_at_call 45; refine (HBX.out _).mono ?_; rintro e w' ⟨rfl, rfl⟩; rw [HQ.out]) | (go_simp; go_at_call 44; refine (HK2.out _ (H.out.meter HM.out (by first | exact (HF3.out.alloc _).drew | exact ((HF3.out.alloc _).drew).alloc _)) (HM3.out.fr (S := fun _ => False) (by first | exact ((Fr.refl _ _).alloc _).drew | exact (((Fr.refl _ _).alloc _).drew).alloc _) (fun h => h))).mono ?_; rintro e w5 ⟨rfl, hm5, hf5⟩; have hml5 := HM3.out.mlt; have hs5 : w3.heap.size + 1 ≤ w5.heap.size := Nat.le_trans (by simp) hf5.size; have HM5 := Lib.hid hm5; have HF5 := Lib.hid hf5; (try (have hb4 : w5.heap[w3.heap.size + 1]? = some (.cells #[.int .u64 0, .slice none 0 0, .int .i64 0, .int .u64 0, .int .u64 0] 73) := hf5.blk (blk_new2d w3 _ _) (by simp only [One]; omega); clear g0 g1 g2 g3 g4; obtain ⟨q0, q1, q2, q3, q4⟩ := nd_cells hb4; have g0 := blk_frozen hb4 0; have g1 := blk_frozen hb4 1; have g2 := blk_frozen hb4 2; have g3 := blk_frozen hb4 3; have g4 := blk_frozen hb4 4; have HB5 := Lib.hid hb4; clear hb4)); clear hm5 hf5))
                all_goals go_wp2
                all_goals go_returns
                all_goals first
                  | (have hfw : Fr (One m) w (((((w5.setCell ⟨w3.heap.size + 1, 0, none⟩ (.int .u64 y2.b)).setCell ⟨w3.heap.size + 1, 1, none⟩ (.slice y2.ka y2.kn y2.kc)).setCell ⟨w3.heap.size + 1, 2, none⟩ (.int .i64 y2.n)).setCell ⟨w3.heap.size + 1, 3, none⟩ (.int .u64 y2.lo)).setCell ⟨w3.heap.size + 1, 4, none⟩ (.int .u64 y2.hi)) := ((((HF3.out.alloc _).drew).alloc _).trans HF5.out).trans_new (fr_put5 w5 (w3.heap.size + 1) y2) (by have := HF3.out.size; omega)
                     exact ⟨by rw [HV.out, ← HLO.out]; rfl, H.out.meter HM.out hfw, ⟨_, by omega, by omega, HM5.out.fr (fr_put5 w5 (w3.heap.size + 1) y2) (by simp only [One]; omega)⟩, hfw⟩)
                  | (have hfw : Fr (One m) w (w5.alloc (.cells #[.int .u64 y2.b, .slice y2.ka y2.kn y2.kc, .int .i64 y2.n, .int .u64 y2.lo, .int .u64 y2.hi] 73)) := ((((HF3.out.alloc _).drew)).trans HF5.out).alloc _
                     exact ⟨by rw [HV.out, ← HLO.out]; rfl, H.out.meter HM.out hfw, ⟨_, by omega, by omega, HM5.out.fr (S := fun _ => False) ((Fr.refl _ w5).alloc _) (fun h => h)⟩, hfw⟩)
            · have HCC : Hid (cls l (j + 1) (pre (j + 1) k) = [] ∨ k < (cls l (j + 1) (pre (j + 1) k)).headD 0) := Lib.hid (.inl (List.eq_nil_iff_forall_not_mem.2 (fun z hz => hcz ⟨z, (mem_cls l (j + 1) _ z).1 hz⟩)))
              have HK := Lib.hid (tkid_no t m p lim root l ad fv wr j k hj10 x HOKj.out hcz)
              clear hcz
              · obtain ⟨m', q1, q2, q3, q4, q5⟩ := prv_beyond hup2.out (i := j) (k := k) hj10 HCj.out (by rw [← HOKj.out.lo]; exact HLEj.out) HCC.out
                obtain rfl := prv_uniq HMM.out q1
                have HPM : Hid (pre j mm = pre j k) := Lib.hid ((mem_cls l j _ mm).1 q2).2
                have HML : Hid (mm ∈ l) := Lib.hid ((mem_cls l j _ mm).1 q2).1
                obtain ⟨y2, hy2, hok2⟩ := HTj.out.at (i := j + 1) (by omega) HML.out
                have HBX := Lib.hid (fun w' => bprev_calls x.b ((dig j k : Nat) - 1 : Int) w' HOKj.out.bl)
                have HQ : Hid (prevL (listW x.b) ((dig j k : Nat) - 1 : Int) = (dig j mm : Nat)) := Lib.hid (by rw [HOKj.out.b]; exact q3)
                have HLO : Hid (y2.hi = mm) := Lib.hid (by rw [hok2.hi, q4])
                have HK2 := Lib.hid (fun w' (h' : TI w' t m p l lim ad rows free cv fv root) (hm' : MT w' m (((j + 1 : Nat) : Int))) => tkid_yes t m p lim root l ad rows free cv fv (((j + 1 : Nat) : Int)) w' h' hm' (by omega) (by omega) j mm (by omega) x y2 (by have e := ti_ok h' hj10 HCj.out HXj.out; rw [← HPM.out] at e; exact e) ⟨mm, HML.out, rfl⟩ hy2)
                clear q1 q2 q3 q4 q5 hy2 hok2
                go_wp2_with (first | (go_at_call 42; refine (HAt.out _).mono ?_; rintro e w' ⟨rfl, rfl⟩) | (go_at_call 44; refine HK.out.mono ?_; rintro e w3 ⟨rfl, hf3⟩; clear r0 r1 r2 r3 r4; have hb3 := hf3.blk HBj.out (fun h => h); obtain ⟨r0, r1, r2, r3, r4⟩ := nd_cells hb3; have g0 := blk_frozen hb3 0; have g1 := blk_frozen hb3 1; have g2 := blk_frozen hb3 2; have g3 := blk_frozen hb3 3; have g4 := blk_frozen hb3 4; have hbl3 := blk_lt hb3; have HB3 := Lib.hid hb3; have HM3 := Lib.hid (HMj.out.fr hf3 (fun h => h)); have HF3 := Lib.hid (HFj.out.trans (hf3.mono (fun _ _ h => h.elim))); clear hf3 hb3))
                clear HS HNE HX0 HRT hup2 HEX HBN HVS HROK HC0 HAt HK HCC HPM HML HMM HLE HB HMx HFx
                have hs1 : IntKind.i64.wrap ((dig j k : Int) - 1) = (dig j k : Int) - 1 := IntWalk.i64_in _ (by omega)
                have hs2 : wrap64 ((dig j k : Int) - 1) = (dig j k : Int) - 1 := by unfold wrap64; omega
                go_region_law (first | (go_simp; go_at_call 45; refine (HBX.out _).mono ?_; rintro e w' ⟨rfl, rfl⟩; rw [HQ.out]) | (go_simp; go_at_call 44; refine (HK2.out _ (H.out.meter HM.out (by first | exact (HF3.out.alloc _).drew | exact ((HF3.out.alloc _).drew).alloc _)) (HM3.out.fr (S := fun _ => False) (by first | exact ((Fr.refl _ _).alloc _).drew | exact (((Fr.refl _ _).alloc _).drew).alloc _) (fun h => h))).mono ?_; rintro e w5 ⟨rfl, hm5, hf5⟩; have hml5 := HM3.out.mlt; have hs5 : w3.heap.size + 1 ≤ w5.heap.size := Nat.le_trans (by simp) hf5.size; have HM5 := Lib.hid hm5; have HF5 := Lib.hid hf5; (try (have hb4 : w5.heap[w3.heap.size + 1]? = some (.cells #[.int .u64 0, .slice none 0 0, .int .i64 0, .int .u64 0, .int .u64 0] 73) := hf5.blk (blk_new2d w3 _ _) (by simp only [One]; omega); clear g0 g1 g2 g3 g4; obtain ⟨q0, q1, q2, q3, q4⟩ := nd_cells hb4; have g0 := blk_frozen hb4 0; have g1 := blk_frozen hb4 1; have g2 := blk_frozen hb4 2; have g3 := blk_frozen hb4 3; have g4 := blk_frozen hb4 4; have HB5 := Lib.hid hb4; clear hb4)); clear hm5 hf5))
                all_goals go_wp2
                all_goals go_returns
                all_goals first
                  | (have hfw : Fr (One m) w (((((w5.setCell ⟨w3.heap.size + 1, 0, none⟩ (.int .u64 y2.b)).setCell ⟨w3.heap.size + 1, 1, none⟩ (.slice y2.ka y2.kn y2.kc)).setCell ⟨w3.heap.size + 1, 2, none⟩ (.int .i64 y2.n)).setCell ⟨w3.heap.size + 1, 3, none⟩ (.int .u64 y2.lo)).setCell ⟨w3.heap.size + 1, 4, none⟩ (.int .u64 y2.hi)) := ((((HF3.out.alloc _).drew).alloc _).trans HF5.out).trans_new (fr_put5 w5 (w3.heap.size + 1) y2) (by have := HF3.out.size; omega)
                     exact ⟨by rw [HV.out, ← HLO.out]; rfl, H.out.meter HM.out hfw, ⟨_, by omega, by omega, HM5.out.fr (fr_put5 w5 (w3.heap.size + 1) y2) (by simp only [One]; omega)⟩, hfw⟩)
                  | (have hfw : Fr (One m) w (w5.alloc (.cells #[.int .u64 y2.b, .slice y2.ka y2.kn y2.kc, .int .i64 y2.n, .int .u64 y2.lo, .int .u64 y2.hi] 73)) := ((((HF3.out.alloc _).drew)).trans HF5.out).alloc _
                     exact ⟨by rw [HV.out, ← HLO.out]; rfl, H.out.meter HM.out hfw, ⟨_, by omega, by omega, HM5.out.fr (S := fun _ => False) ((Fr.refl _ w5).alloc _) (fun h => h)⟩, hfw⟩)
    · have hle' : (k : Int) < (x0.lo : Int) := by omega
      have HV := Lib.hid (HBN.out hle)
      have HFw := Lib.hid (HF1.out.trans HFx.out)
      go_wp2
      go_returns
      exact ⟨by rw [HV.out]; rfl, H.out.meter HM.out HFw.out, ⟨1, by omega, by omega, HMx.out⟩, HFw.out⟩
end Go.Proofs.YtnhdcefoigmjpaaDoor

