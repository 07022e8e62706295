/-
  The contract of a trie's Rank.
-/
import Derived.Deep.CutRange
import Derived.Test.YtnhdcefoigmjpaaDoorTrBounds

namespace Go.Proofs.YtnhdcefoigmjpaaDoor
open Go.RowKit Go.Proofs.YtnhdcefoigmjpaaDoorW.PrintWords Go.Proofs.YtnhdcefoigmjpaaDoorW.PrintMore
attribute [local go_sem] max2_int min2_int max_two min_two
set_option linter.unusedVariables false
set_option linter.unusedSimpArgs false

/-- The children of a node that is there: where their numbers lie, how many there are, and their nodes. -/
theorem kids_row {W : World} {fv : Value} {ad : Ad} {l : List Nat} {i p : Nat} {x : Nd} (h : NdOk W fv ad l i p x) (hi : i < 10) (hne : cls l i p ≠ []) :
    ∃ q, x.ka = some ⟨q, 0, none⟩ ∧ x.kn = (listW (bitsC l i p)).length ∧ x.kn ≤ x.kc ∧ x.kn ≤ 64 ∧ q < W.heap.size ∧ ∀ c, c < x.kn → W.cell? ⟨q, c, none⟩ = some (.int .i64 (ad (i + 1) (p * 64 + ((listW (bitsC l i p)).getD c 0).toNat) : Nat)) := by
  have hk := h.kids
  rw [if_pos hi] at hk
  have ho := Kd.own_of_R hk
  have hlen : (kidC ad l i p).length = (listW (bitsC l i p)).length := by simp [kidC]
  have hpos : 0 < (listW (bitsC l i p)).length := List.length_pos_iff.2 (digits_ne hne)
  have hc64 : (kidC ad l i p).length ≤ 64 := by rw [kid_len]; exact cntN_le _
  rcases ho.2 with ⟨_, e⟩ | ⟨g, cap, cur, e, hg, hb, h3, h4, h5, h6⟩
  · omega
  · simp only [Value.slice.injEq] at e
    obtain ⟨e1, e2, e3⟩ := e
    refine ⟨g, e1, by rw [e2, hlen], by rw [e2, e3]; exact h3, by rw [e2]; exact hc64, blk_lt hb, fun c hc => ?_⟩
    rw [e2] at hc
    rw [blk_cell hb]
    rw [Nat.mul_one] at h6
    have h7 : (cur.toList.take (kidC ad l i p).length)[c]? = (encs (Value.int .i64) (kidC ad l i p))[c]? := by rw [h6]
    rw [List.getElem?_take, if_pos hc] at h7
    rw [← Array.getElem?_toList, h7]
    have hcl : c < (listW (bitsC l i p)).length := by omega
    simp only [encs, kidC, List.getElem?_map, List.getElem?_eq_getElem hcl, Option.map_some, List.getD_eq_getElem?_getD, Option.getD_some]
/-- The c-th child's node. -/
theorem kid_node {W : World} {fv : Value} {ad : Ad} {l : List Nat} {rows : List (Option Nd)} (h : NI W fv ad (fun _ => l) rows) {i p c : Nat} (hi : i < 10) (hc : c < (listW (bitsC l i p)).length) :
    ∃ y, rows[ad (i + 1) (p * 64 + ((listW (bitsC l i p)).getD c 0).toNat)]? = some (some y) ∧ NdOk W fv ad l (i + 1) (p * 64 + ((listW (bitsC l i p)).getD c 0).toNat) y := by
  have hm : (listW (bitsC l i p)).getD c 0 ∈ listW (bitsC l i p) := by
    rw [List.getD_eq_getElem?_getD, List.getElem?_eq_getElem hc]; exact List.getElem_mem hc
  obtain ⟨z, hz, e⟩ := (mem_digits l i p _).1 hm
  obtain ⟨hz1, hz2⟩ := (mem_cls l i p z).1 hz
  obtain ⟨y, h1, h2⟩ := h.ok (i + 1) (by omega) z hz1
  have e2 : pre (i + 1) z = p * 64 + ((listW (bitsC l i p)).getD c 0).toNat := by rw [pre_succ i z (by omega), hz2, ← e]; simp
  rw [e2] at h1 h2
  exact ⟨y, h1, h2⟩
theorem sumK_succ' (l : List Nat) (i p j : Nat) (h : j < (listW (bitsC l i p)).length) : sumK l i p (j + 1) = sumK l i p j + (cls l (i + 1) (p * 64 + ((listW (bitsC l i p)).getD j 0).toNat)).length := by
  rw [sumK_succ l i p j h, List.getD_eq_getElem?_getD, List.getElem?_eq_getElem h]; rfl

set_option maxRecDepth 100000 in
set_option maxHeartbeats 4000000 in
theorem trank_calls (t m p lim root : Nat) (l : List Nat) (ad : Ad) (rows : List (Option Nd)) (free : List Nat) (cv fv : Value) (tk : Int) (w : World) (h : TI w t m p l lim ad rows free cv fv root) (hm : MT w m tk) (k : Nat) (hk : k < 18446744073709551616) :
    Calls Tryd.prog 22 #[.pointer (some ⟨t, 0, none⟩), .int .u64 k] w fun e w' => e = .returned (.int .i64 (cntLt l k : Nat)) ∧ TI w' t m p l lim ad rows free cv fv root ∧ MT w' m 0 ∧ Fr (One m) w w' := by
  have HS := Lib.hid (fun w' (h : TI w' t m p l lim ad rows free cv fv root) (hm : MT w' m tk) => tstart_calls t m p lim root l ad rows free cv fv tk w' h hm)
  have H := Lib.hid h
  have HM := Lib.hid hm
  by_cases hne : l = []
  · have HNE : Hid (decide (l ≠ []) = false) := Lib.hid (by simp [hne])
    have HV : Hid (cntLt l k = 0) := Lib.hid (by rw [hne]; rfl)
    clear h hm
    go_enter Tryd.func22, Tryd.ntmps22
    go_wp2_with (first | (go_at_call 40; refine (HS.out _ H.out HM.out).mono ?_; rintro e w1 ⟨rfl, ht1, hm1, hf1⟩; rw [HNE.out]))
    go_ret
    exact ⟨by rw [HV.out]; rfl, ht1, hm1, hf1⟩
  have HNE : Hid (decide (l ≠ []) = true) := Lib.hid (by simp [hne])
  obtain ⟨z0, hz0⟩ := List.exists_mem_of_ne_nil _ hne
  obtain ⟨x0, hx0, hok0⟩ := h.at (i := 0) (by omega) hz0
  rw [pre_zero (h.bd z0 hz0), ← h.root hne] at hx0
  have HX0 := Lib.hid hx0
  have HRT := Lib.hid (h.root hne)
  have hup2 := Lib.hid h.up
  have hml := hm.mlt
  have HROK : Hid (∀ w' (h' : TI w' t m p l lim ad rows free cv fv root), NdOk w' fv ad l 0 (pre 0 k) x0) := Lib.hid (fun w' h' => by
    obtain ⟨x, h1, h2⟩ := h'.at (i := 0) (by omega) hz0
    rw [pre_zero (h'.bd z0 hz0), ← h'.root hne, HX0.out] at h1
    rw [pre_zero (h'.bd z0 hz0)] at h2
    simp only [Option.some.injEq] at h1
    subst h1
    rw [pre_zero hk]; exact h2)
  have HC0 : Hid (cls l 0 (pre 0 k) ≠ []) := Lib.hid (by rw [pre_zero hk, cls_root h.bd]; exact hne)
  have HCN : Hid (cntLt (cls l 0 (pre 0 k)) k = cntLt l k) := Lib.hid (cnt_root h.bd hk)
  have hlen := h.len
  have HLE : Hid (∀ j q, (cls l j q).length ≤ l.length) := Lib.hid (fun j q => List.length_filter_le _ _)
  clear h hm hx0 hok0 hz0
  go_enter Tryd.func22, Tryd.ntmps22
  go_wp2_with (first
    | (go_at_call 40; refine (HS.out _ H.out HM.out).mono ?_; rintro e w1 ⟨rfl, ht1, hm1, hf1⟩; rw [HNE.out]; have c1 : w1.cell? ⟨t, 1, none⟩ = some (.pointer (some ⟨p, 0, none⟩)) := blk_cell ht1.blk 1; have c2 : w1.cell? ⟨t, 2, none⟩ = some (.int .i64 root) := blk_cell ht1.blk 2; have HT1 := Lib.hid ht1; have HM1 := Lib.hid hm1; have HF1 := Lib.hid hf1; have hml1 := hm1.mlt; have htl1 := ht1.lt; clear ht1 hm1 hf1)
    | (go_at_call 48; refine (tsee_calls t m p lim root l ad rows free cv fv _ c1 HT1.out.pl _ x0 HX0.out).mono ?_; rintro e w2 ⟨rfl, hf2⟩; have HF2 := Lib.hid hf2; have hs2 := hf2.size; clear hf2 c1 c2))
  have HB0 : Hid ((w2.alloc (.cells #[.int .u64 x0.b, .slice x0.ka x0.kn x0.kc, .int .i64 x0.n, .int .u64 x0.lo, .int .u64 x0.hi] 73)).heap[w2.heap.size]? = some (.cells #[.int .u64 x0.b, .slice x0.ka x0.kn x0.kc, .int .i64 x0.n, .int .u64 x0.lo, .int .u64 x0.hi] 73)) := Lib.hid (blk_new w2 _)
  have HF0 : Hid (Nw w1 (w2.alloc (.cells #[.int .u64 x0.b, .slice x0.ka x0.kn x0.kc, .int .i64 x0.n, .int .u64 x0.lo, .int .u64 x0.hi] 73))) := Lib.hid (HF2.out.alloc _)
  obtain ⟨b0, hb0⟩ : ∃ b0, b0 = w2.heap.size := ⟨_, rfl⟩
  obtain ⟨w3, hw3⟩ : ∃ w3, w3 = w2.alloc (.cells #[.int .u64 x0.b, .slice x0.ka x0.kn x0.kc, .int .i64 x0.n, .int .u64 x0.lo, .int .u64 x0.hi] 73) := ⟨_, rfl⟩
  rw [← hw3] at HB0 HF0 ⊢
  rw [← hb0] at HB0 hs2 ⊢
  clear hb0 hw3 HF2
  go_loopw [5, 7, 8, 9, 11, 40] (fun nv lv _ _ _ _ wr => ∃ (j n : Nat) (x : Nd), j ≤ 10 ∧ lv = .int .i64 j ∧ nv = .int .i64 n ∧ Hid (n + cntLt (cls l j (pre j k)) k = cntLt l k) ∧ Hid (wr.heap[b0]? = some (.cells #[.int .u64 x.b, .slice x.ka x.kn x.kc, .int .i64 x.n, .int .u64 x.lo, .int .u64 x.hi] 73)) ∧ Hid (rows[ad j (pre j k)]? = some (some x)) ∧ Hid (NdOk wr fv ad l j (pre j k) x) ∧ Hid (cls l j (pre j k) ≠ []) ∧ Hid (Nw w1 wr)) (fun _ lv _ _ _ _ _ => 10 - (intOf lv).toNat)
  case atStart => exact ⟨0, 0, x0, by omega, rfl, rfl, Lib.hid (by rw [HCN.out]; omega), HB0, Lib.hid (by rw [pre_zero hk, ← HRT.out]; exact HX0.out), Lib.hid (HROK.out _ (HT1.out.nw HF0.out)), HC0, HF0⟩
  case round =>
    obtain ⟨j, n, x, hj10, rfl, rfl, HN, HBj, HXj, HOKj, HCj, HFj⟩ := hrel
    have HTj := Lib.hid (HT1.out.nw HFj.out)
    have hnl : n ≤ 1000000 := by have h1 := HN.out; have h2 : cntLt l k ≤ l.length := cnt_le l k; omega
    obtain ⟨r0, r1, r2, r3, r4⟩ := nd_cells HBj.out
    have HAt := Lib.hid (fun w' => tat_calls k j w' hk hj10)
    have hdk := dig_lt j k
    obtain ⟨r, hr⟩ : ∃ r, r = rankL (listW x.b) (dig j k : Nat) := ⟨_, rfl⟩
    have HRK := Lib.hid (fun w' => brank_calls x.b (dig j k : Nat) w' HOKj.out.bl)
    rw [← hr] at HRK
    have HR := Lib.hid hr
    have hr64 : r ≤ 64 := by rw [hr]; exact Nat.le_trans (List.length_filter_le _ _) (cntN_le _)
    clear hr
    by_cases h10 : j = 10
    · subst h10
      have HE : Hid (n + r = cntLt l k) := Lib.hid (by rw [← HN.out, cnt_end hup2.out, HR.out, HOKj.out.b])
      go_wp2_with (first
        | (go_at_call 42; refine (HAt.out _).mono ?_; rintro e w' ⟨rfl, rfl⟩)
        | (go_at_call 50; refine (HRK.out _).mono ?_; rintro e w' ⟨rfl, rfl⟩))
      go_ret
      exact ⟨ret_int (by rw [← HE.out]; push_cast; rfl), HTj.out, HM1.out.fr HFj.out (fun h => h), HF1.out.trans (HFj.out.mono (fun _ _ h => h.elim))⟩
    · have hj9 : j < 10 := by omega
      have h10' : ((j : Int) == 10) = false := by simp; omega
      obtain ⟨q, e1, e2, e3, e4, hq, hcell⟩ := kids_row HOKj.out hj9 HCj.out
      have hrn : r ≤ x.kn := by rw [e2, HR.out, HOKj.out.b]; exact List.length_filter_le _ _
      have r1' : wr.cell? ⟨b0, 1, none⟩ = some (.slice (some ⟨q, 0, none⟩) x.kn x.kc) := by rw [r1, e1]
      have hcut : ∀ W : World, (Instr.slice 71 (.slice (some ⟨q, 0, none⟩) x.kn x.kc) none (some (.int .i64 (r : Nat))) none).run Tryd.prog W = .ok (.slice (some ⟨q, 0, none⟩) r x.kc) W := by
        obtain ⟨i0, hi0, _, hsz, _⟩ := info_parts info_i64
        have := cut_to (P := Tryd.prog) 71 3 .i64 Tryd.underlying71 hi0 (some ⟨q, 0, none⟩) x.kn x.kc (r : Nat) (by omega) (by omega) e3
        simpa using this
      have HCELL := Lib.hid hcell
      have HKN := Lib.hid e2
      have HKA := Lib.hid e1
      clear hcell e1 e2 r1
      obtain ⟨wo, hwo⟩ : ∃ wo, wo = wr := ⟨_, rfl⟩
      subst hwo
      have c1 : wo.cell? ⟨t, 1, none⟩ = some (.pointer (some ⟨p, 0, none⟩)) := blk_cell HTj.out.blk 1
      have C1 := Lib.hid c1
      have HSU : Hid (∀ c, c ≤ r → sumK l j (pre j k) c ≤ 1000000) := Lib.hid (fun c _ => by have h1 := sumK_le hup2.out j (pre j k) c hj10; have h2 := HLE.out j (pre j k); omega)
      have hbl0 := blk_lt HBj.out
      go_wp2_with (first
        | (go_at_call 42; refine (HAt.out _).mono ?_; rintro e w' ⟨rfl, rfl⟩)
        | (go_at_call 50; refine (HRK.out _).mono ?_; rintro e w' ⟨rfl, rfl⟩))
      go_loopw [5, 11, 40] (fun nv _ cv wi => ∃ (c n' : Nat), c ≤ r ∧ cv = .int .i64 c ∧ nv = .int .i64 n' ∧ Hid (n' = n + sumK l j (pre j k) c) ∧ Hid (Nw wo wi)) (fun _ _ cv _ => r - (intOf cv).toNat)
      case atStart => exact ⟨0, n, Nat.zero_le _, rfl, rfl, Lib.hid (by simp [sumK]), Lib.hid (Fr.refl _ _)⟩
      case round =>
        obtain ⟨c, n', hcr, rfl, rfl, HNC, HFi⟩ := hrel
        have hn'b : n' ≤ 2000000 := by have h1 := HNC.out; have h2 := HSU.out c hcr; omega
        clear c1 r0 r1' r2 r3 r4
        have c1 : wr.cell? ⟨t, 1, none⟩ = some (.pointer (some ⟨p, 0, none⟩)) := HFi.out.cell C1.out (fun h => h)
        by_cases hlt : c < r
        · obtain ⟨y, hy, hoky⟩ := kid_node HTj.out.ni (p := pre j k) hj9 (c := c) (by rw [← HKN.out]; omega)
          have hcc : wr.cell? ⟨q, c, none⟩ = some (.int .i64 (ad (j + 1) (pre j k * 64 + ((listW (bitsC l j (pre j k))).getD c 0).toNat) : Nat)) := HFi.out.cell (HCELL.out c (by omega)) (fun h => h)
          obtain ⟨A, hA⟩ : ∃ A, A = ad (j + 1) (pre j k * 64 + ((listW (bitsC l j (pre j k))).getD c 0).toNat) := ⟨_, rfl⟩
          rw [← hA] at hcc hy
          have HY := Lib.hid hy
          have HYN : Hid (n' + y.n = n + sumK l j (pre j k) (c + 1)) := Lib.hid (by rw [sumK_succ' l j (pre j k) c (by rw [← HKN.out]; omega), hoky.n, HNC.out]; omega)
          have hyb : (n' : Int) + y.n ≤ 3000000 := by have h1 := HYN.out; have h2 := HSU.out (c + 1) (by omega); omega
          have fl := fun W => fldn y.b (.slice y.ka y.kn y.kc) y.n y.lo y.hi W
          clear hA hy hoky
          go_wp2_with (first
            | (go_at_call 48; refine (tsee_calls t m p lim root l ad rows free cv fv _ c1 (HTj.out.pl.nw HFi.out) _ y HY.out).mono ?_; rintro e w2 ⟨rfl, hf2⟩; have HF2 := Lib.hid (HFi.out.trans hf2); clear hf2))
          go_roundw
          case rel => exact ⟨c + 1, n' + y.n, by omega, by go_num, by go_num, HYN, HF2⟩
          case measure => simp [intOf]; omega
        · obtain rfl : c = r := by omega
          have HBi := Lib.hid (HFi.out.blk HBj.out (fun h => h))
          have HTi := Lib.hid (HTj.out.nw HFi.out)
          obtain ⟨r0, r1, r2, r3, r4⟩ := nd_cells HBi.out
          have g0 := blk_frozen HBi.out 0; have g1 := blk_frozen HBi.out 1; have g2 := blk_frozen HBi.out 2; have g3 := blk_frozen HBi.out 3; have g4 := blk_frozen HBi.out 4
          have r1' : wr.cell? ⟨b0, 1, none⟩ = some (.slice (some ⟨q, 0, none⟩) x.kn x.kc) := by rw [r1, HKA.out]
          have HGT := Lib.hid (fun w' => get_calls x.b (dig j k : Nat) w' HOKj.out.bl)
          have hgd := get_digit HOKj.out hj10
          clear r1
          by_cases hz : ∃ z, z ∈ l ∧ pre (j + 1) z = pre (j + 1) k
          · rw [decide_eq_true hz] at hgd
            rw [hgd] at HGT
            clear hgd
            obtain ⟨q', e1, hr', _, _, _, hc'⟩ := HOKj.out.kid hj9 hz
            rw [HKA.out] at e1
            cases e1
            rw [← HR.out] at hr' hc'
            obtain ⟨z, hz1, hz2⟩ := hz
            obtain ⟨y, hy, hoky⟩ := HTi.out.at (i := j + 1) (by omega) hz1
            rw [hz2] at hy hoky
            have hcc : wr.cell? ⟨q, c, none⟩ = some (.int .i64 (ad (j + 1) (pre (j + 1) k) : Nat)) := HFi.out.cell hc' (fun h => h)
            have HY := Lib.hid hy
            have HOKY := Lib.hid hoky
            have HCY : Hid (cls l (j + 1) (pre (j + 1) k) ≠ []) := Lib.hid (fun e => by have := (mem_cls l (j + 1) (pre (j + 1) k) z).2 ⟨hz1, hz2⟩; rw [e] at this; cases this)
            have HNY : Hid (n' + cntLt (cls l (j + 1) (pre (j + 1) k)) k = cntLt l k) := Lib.hid (by
              rw [← HN.out, cnt_level hup2.out j k hj10, HNC.out, HR.out, HOKj.out.b]; omega)
            clear hy hoky hz1 hz2 hc'
            go_wp2_with (first
              | (go_at_call 51; refine (HGT.out _).mono ?_; rintro e w' ⟨rfl, rfl⟩)
              | (go_at_call 48; refine (tsee_calls t m p lim root l ad rows free cv fv _ c1 HTi.out.pl _ y HY.out).mono ?_; rintro e w2 ⟨rfl, hf2⟩; have hb2 := hf2.blk HBi.out (fun h => h); clear r0 r1' r2 r3 r4 g0 g1 g2 g3 g4; obtain ⟨r0, r1, r2, r3, r4⟩ := nd_cells hb2; have g0 := blk_frozen hb2 0; have g1 := blk_frozen hb2 1; have g2 := blk_frozen hb2 2; have g3 := blk_frozen hb2 3; have g4 := blk_frozen hb2 4; have HB2 := Lib.hid hb2; have HF2 := Lib.hid (HFi.out.trans hf2); clear hf2 hb2))
            go_roundw
            case rel =>
              have hfw : Nw w1 (((((w2.setCell ⟨b0, 0, none⟩ (.int .u64 y.b)).setCell ⟨b0, 1, none⟩ (.slice y.ka y.kn y.kc)).setCell ⟨b0, 2, none⟩ (.int .i64 y.n)).setCell ⟨b0, 3, none⟩ (.int .u64 y.lo)).setCell ⟨b0, 4, none⟩ (.int .u64 y.hi)) := (HFj.out.trans HF2.out).trans_new (fr_put5 w2 b0 y) (by omega)
              have HTw := HT1.out.nw hfw
              exact ⟨j + 1, n', y, by omega, by go_num, rfl, HNY, Lib.hid (blk_put5 HB2.out y), HY, Lib.hid (ti_ok HTw (by omega) HCY.out HY.out), HCY, Lib.hid hfw⟩
            case measure => simp [intOf]; omega
          · rw [decide_eq_false hz] at hgd
            rw [hgd] at HGT
            clear hgd
            have HE : Hid (n' = cntLt l k) := Lib.hid (by
              have hc : cls l (j + 1) (pre (j + 1) k) = [] := List.eq_nil_iff_forall_not_mem.2 (fun z hzz => hz ⟨z, (mem_cls l (j + 1) _ z).1 hzz⟩)
              rw [← HN.out, cnt_level hup2.out j k hj10, hc, cnt_empty, HNC.out, HR.out, HOKj.out.b]; omega)
            clear hz
            go_wp2_with (first
              | (go_at_call 51; refine (HGT.out _).mono ?_; rintro e w' ⟨rfl, rfl⟩))
            go_ret
            exact ⟨ret_int (by rw [← HE.out]), HTi.out, HM1.out.fr (HFj.out.trans HFi.out) (fun h => h), HF1.out.trans ((HFj.out.trans HFi.out).mono (fun _ _ h => h.elim))⟩
end Go.Proofs.YtnhdcefoigmjpaaDoor
