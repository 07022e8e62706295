/-
  The contract of a trie's Select.
-/
import Derived.Deep.CutRange
import Derived.Test.YtnhdcefoigmjpaaDoorTrRank

namespace Go.Proofs.YtnhdcefoigmjpaaDoor
open Go.RowKit Go.Proofs.YtnhdcefoigmjpaaDoorW.PrintWords Go.Proofs.YtnhdcefoigmjpaaDoorW.PrintMore
attribute [local go_sem] max2_int min2_int max_two min_two
set_option linter.unusedVariables false
set_option linter.unusedSimpArgs false

theorem nth_child {l : List Nat} (h : Up l) {i p c n v : Nat} (hi : i ≤ 10) (hc : c < (listW (bitsC l i p)).length) (hv : (cls l i p)[n]? = some v) (h1 : sumK l i p c ≤ n) (h2 : n < sumK l i p (c + 1)) :
    (cls l (i + 1) (p * 64 + ((listW (bitsC l i p)).getD c 0).toNat))[n - sumK l i p c]? = some v ∧ pre (i + 1) v = p * 64 + ((listW (bitsC l i p)).getD c 0).toNat := by
  have e : (listW (bitsC l i p)).getD c 0 = (listW (bitsC l i p))[c] := by rw [List.getD_eq_getElem?_getD, List.getElem?_eq_getElem hc]; rfl
  have h3 := nth_level h i p c n hi hc h1 h2
  rw [hv] at h3
  rw [e]
  exact ⟨h3.symm, ((mem_cls l _ _ v).1 (List.mem_of_getElem? h3.symm)).2⟩
theorem sel_ten {l : List Nat} (h : Up l) {p n v : Nat} (hv : (cls l 10 p)[n]? = some v) : ∃ d : Nat, d < 64 ∧ selectL (listW (bitsC l 10 p)) (n : Nat) = (d : Nat) ∧ v = p * 64 + d := by
  rw [cls_ten h, List.getElem?_map] at hv
  cases hd : (listW (bitsC l 10 p))[n]? with
  | none => rw [hd] at hv; cases hv
  | some d =>
    rw [hd] at hv
    simp only [Option.map_some, Option.some.injEq] at hv
    have hm := (mem_listW _ d).1 (List.mem_of_getElem? hd)
    refine ⟨d.toNat, by omega, ?_, hv.symm⟩
    unfold selectL
    rw [if_neg (by omega), Int.toNat_natCast, List.getD_eq_getElem?_getD, hd]
    simp; omega
set_option maxRecDepth 100000 in
set_option maxHeartbeats 2000000 in
theorem tselect_out (t m p lim root : Nat) (l : List Nat) (ad : Ad) (rows : List (Option Nd)) (free : List Nat) (cv fv : Value) (tk : Int) (w : World) (h : TI w t m p l lim ad rows free cv fv root) (hm : MT w m tk) (i : Int) (hi : i < 0 ∨ (l.length : Int) ≤ i) :
    Calls Tryd.prog 21 #[.pointer (some ⟨t, 0, none⟩), .int .i64 i] w fun e w' => e = .returned (.tuple #[.int .u64 0, .bool false]) ∧ TI w' t m p l lim ad rows free cv fv root ∧ MT w' m 0 ∧ Fr (One m) w w' := by
  have HS := Lib.hid (fun w' (h : TI w' t m p l lim ad rows free cv fv root) (hm : MT w' m tk) => tstart_calls t m p lim root l ad rows free cv fv tk w' h hm)
  have H := Lib.hid h
  have HM := Lib.hid hm
  have HI := Lib.hid hi
  clear h hm hi
  by_cases hne : l = []
  · have HNE : Hid (decide (l ≠ []) = false) := Lib.hid (by simp [hne])
    go_enter Tryd.func21, Tryd.ntmps21
    go_wp2_with (first | (go_at_call 40; refine (HS.out _ H.out HM.out).mono ?_; rintro e w1 ⟨rfl, ht1, hm1, hf1⟩; rw [HNE.out]))
    go_returns
    exact ⟨rfl, ht1, hm1, hf1⟩
  · have HNE : Hid (decide (l ≠ []) = true) := Lib.hid (by simp [hne])
    rcases HI.out with hi | hi
    · go_enter Tryd.func21, Tryd.ntmps21
      go_wp2_with (first | (go_at_call 40; refine (HS.out _ H.out HM.out).mono ?_; rintro e w1 ⟨rfl, ht1, hm1, hf1⟩; rw [HNE.out]))
      go_returns
      exact ⟨rfl, ht1, hm1, hf1⟩
    · have hi0 : ¬ i < 0 := by omega
      go_enter Tryd.func21, Tryd.ntmps21
      go_wp2_with (first | (go_at_call 40; refine (HS.out _ H.out HM.out).mono ?_; rintro e w1 ⟨rfl, ht1, hm1, hf1⟩; rw [HNE.out]; have c3 : w1.cell? ⟨t, 3, none⟩ = some (.int .i64 l.length) := blk_cell ht1.blk 3; have HT1 := Lib.hid ht1; have HM1 := Lib.hid hm1; have HF1 := Lib.hid hf1; clear ht1 hm1 hf1))
      go_returns
      exact ⟨rfl, HT1.out, HM1.out, HF1.out⟩
set_option maxRecDepth 100000 in
set_option maxHeartbeats 4000000 in
theorem tselect_in (t m p lim root : Nat) (l : List Nat) (ad : Ad) (rows : List (Option Nd)) (free : List Nat) (cv fv : Value) (tk : Int) (w : World) (h : TI w t m p l lim ad rows free cv fv root) (hm : MT w m tk) (i0 v : Nat) (hv : l[i0]? = some v) :
    Calls Tryd.prog 21 #[.pointer (some ⟨t, 0, none⟩), .int .i64 (i0 : Nat)] w fun e w' => e = .returned (.tuple #[.int .u64 (v : Nat), .bool true]) ∧ TI w' t m p l lim ad rows free cv fv root ∧ MT w' m 0 ∧ Fr (One m) w w' := by
  have HS := Lib.hid (fun w' (h : TI w' t m p l lim ad rows free cv fv root) (hm : MT w' m tk) => tstart_calls t m p lim root l ad rows free cv fv tk w' h hm)
  have H := Lib.hid h
  have HM := Lib.hid hm
  have hvm : v ∈ l := List.mem_of_getElem? hv
  have hne : l ≠ [] := fun e => by rw [e] at hvm; cases hvm
  have HNE : Hid (decide (l ≠ []) = true) := Lib.hid (by simp [hne])
  have hvb := h.bd v hvm
  have hi0 : i0 < l.length := (List.getElem?_eq_some_iff.1 hv).1
  obtain ⟨x0, hx0, hok0⟩ := h.at (i := 0) (by omega) hvm
  have HX0 := Lib.hid hx0
  have HRT : Hid (root = ad 0 (pre 0 v)) := Lib.hid (by rw [pre_zero hvb]; exact h.root hne)
  have hup2 := Lib.hid h.up
  have hml := hm.mlt
  have HROK : Hid (∀ w' (h' : TI w' t m p l lim ad rows free cv fv root), NdOk w' fv ad l 0 (pre 0 v) x0) := Lib.hid (fun w' h' => by
    obtain ⟨x, h1, h2⟩ := h'.at (i := 0) (by omega) hvm
    rw [HX0.out] at h1
    simp only [Option.some.injEq] at h1
    subst h1; exact h2)
  have HC0 : Hid ((cls l 0 (pre 0 v))[i0]? = some v) := Lib.hid (by rw [pre_zero hvb, cls_root h.bd]; exact hv)
  have hlen := h.len
  have HLE : Hid (∀ j q, (cls l j q).length ≤ l.length) := Lib.hid (fun j q => List.length_filter_le _ _)
  have HBD := Lib.hid h.bd
  have hi1 : (i0 : Int) < l.length := by omega
  clear h hm hx0 hok0 hv hvm hne
  go_enter Tryd.func21, Tryd.ntmps21
  go_wp2_with (first
    | (go_at_call 40; refine (HS.out _ H.out HM.out).mono ?_; rintro e w1 ⟨rfl, ht1, hm1, hf1⟩; rw [HNE.out]; have c1 : w1.cell? ⟨t, 1, none⟩ = some (.pointer (some ⟨p, 0, none⟩)) := blk_cell ht1.blk 1; have c2 : w1.cell? ⟨t, 2, none⟩ = some (.int .i64 root) := blk_cell ht1.blk 2; have c3 : w1.cell? ⟨t, 3, none⟩ = some (.int .i64 l.length) := blk_cell ht1.blk 3; have HT1 := Lib.hid ht1; have HM1 := Lib.hid hm1; have HF1 := Lib.hid hf1; have hml1 := hm1.mlt; have htl1 := ht1.lt; clear ht1 hm1 hf1)
    | (go_at_call 48; refine (tsee_calls t m p lim root l ad rows free cv fv _ c1 HT1.out.pl _ x0 (by rw [HRT.out]; exact HX0.out)).mono ?_; rintro e w2 ⟨rfl, hf2⟩; have HF2 := Lib.hid hf2; have hs2 := hf2.size; clear hf2 c1 c2 c3))
  have HB0 : Hid ((w2.alloc (.cells #[.int .u64 x0.b, .slice x0.ka x0.kn x0.kc, .int .i64 x0.n, .int .u64 x0.lo, .int .u64 x0.hi] 73)).heap[w2.heap.size]? = some (.cells #[.int .u64 x0.b, .slice x0.ka x0.kn x0.kc, .int .i64 x0.n, .int .u64 x0.lo, .int .u64 x0.hi] 73)) := Lib.hid (blk_new w2 _)
  have HF0 : Hid (Nw w1 (w2.alloc (.cells #[.int .u64 x0.b, .slice x0.ka x0.kn x0.kc, .int .i64 x0.n, .int .u64 x0.lo, .int .u64 x0.hi] 73))) := Lib.hid (HF2.out.alloc _)
  obtain ⟨b0, hb0⟩ : ∃ b0, b0 = w2.heap.size := ⟨_, rfl⟩
  obtain ⟨w3, hw3⟩ : ∃ w3, w3 = w2.alloc (.cells #[.int .u64 x0.b, .slice x0.ka x0.kn x0.kc, .int .i64 x0.n, .int .u64 x0.lo, .int .u64 x0.hi] 73) := ⟨_, rfl⟩
  rw [← hw3] at HB0 HF0 ⊢
  rw [← hb0] at HB0 hs2 ⊢
  clear hb0 hw3 HF2
  go_loopw [1, 8, 9, 31, 36] (fun iv _ _ jv _ wr => ∃ (j i : Nat) (x : Nd), j ≤ 10 ∧ i ≤ 1000000 ∧ jv = .int .i64 j ∧ iv = .int .i64 i ∧ Hid ((cls l j (pre j v))[i]? = some v) ∧ Hid (wr.heap[b0]? = some (.cells #[.int .u64 x.b, .slice x.ka x.kn x.kc, .int .i64 x.n, .int .u64 x.lo, .int .u64 x.hi] 73)) ∧ Hid (rows[ad j (pre j v)]? = some (some x)) ∧ Hid (NdOk wr fv ad l j (pre j v) x) ∧ Hid (Nw w1 wr)) (fun _ _ _ jv _ _ => 10 - (intOf jv).toNat)
  case atStart => exact ⟨0, i0, x0, by omega, by omega, rfl, rfl, HC0, HB0, HX0, HROK.out _ (HT1.out.nw HF0.out) |> Lib.hid, HF0⟩
  case round =>
    obtain ⟨j, i, x, hj10, hi6, rfl, rfl, HV, HBj, HXj, HOKj, HFj⟩ := hrel
    have HTj := Lib.hid (HT1.out.nw HFj.out)
    obtain ⟨r0, r1, r2, r3, r4⟩ := nd_cells HBj.out
    by_cases hlt : j < 10
    · have hlt' : (j : Int) < 10 := by omega
      have hcne : cls l j (pre j v) ≠ [] := fun e => by have := HV.out; rw [e] at this; simp at this
      obtain ⟨q, e1, e2, e3, e4, hq, hcell⟩ := kids_row HOKj.out hlt hcne
      have r1' : wr.cell? ⟨b0, 1, none⟩ = some (.slice (some ⟨q, 0, none⟩) x.kn x.kc) := by rw [r1, e1]
      have HCELL := Lib.hid hcell
      have HKN := Lib.hid e2
      clear hcell e1 e2 r1 hcne
      obtain ⟨wo, hwo⟩ : ∃ wo, wo = wr := ⟨_, rfl⟩
      subst hwo
      have C1 : Hid (wo.cell? ⟨t, 1, none⟩ = some (.pointer (some ⟨p, 0, none⟩))) := Lib.hid (blk_cell HTj.out.blk 1)
      have hbl0 := blk_lt HBj.out
      go_wp2
      go_loopw [1, 8, 9, 36] (fun iv _ _ cv wi => ∃ (c i' : Nat), c ≤ x.kn ∧ cv = .int .i64 c ∧ iv = .int .i64 i' ∧ Hid (i = i' + sumK l j (pre j v) c) ∧ Hid (Nw wo wi)) (fun _ _ _ cv _ => x.kn - (intOf cv).toNat)
      case atStart => exact ⟨0, i, Nat.zero_le _, rfl, rfl, Lib.hid (by simp [sumK]), Lib.hid (Fr.refl _ _)⟩
      case round =>
        obtain ⟨c, i', hcr, rfl, rfl, HNC, HFi⟩ := hrel
        clear r0 r1' r2 r3 r4
        have c1 : wr.cell? ⟨t, 1, none⟩ = some (.pointer (some ⟨p, 0, none⟩)) := HFi.out.cell C1.out (fun h => h)
        by_cases hck : c < x.kn
        · obtain ⟨y, hy, hoky⟩ := kid_node HTj.out.ni (p := pre j v) hlt (c := c) (by rw [← HKN.out]; omega)
          have hcc : wr.cell? ⟨q, c, none⟩ = some (.int .i64 (ad (j + 1) (pre j v * 64 + ((listW (bitsC l j (pre j v))).getD c 0).toNat) : Nat)) := HFi.out.cell (HCELL.out c (by omega)) (fun h => h)
          have HSS : Hid (sumK l j (pre j v) (c + 1) = sumK l j (pre j v) c + y.n) := Lib.hid (by rw [sumK_succ' l j (pre j v) c (by rw [← HKN.out]; omega), hoky.n])
          have HIY : Hid (i' < y.n → (cls l (j + 1) (pre (j + 1) v))[i']? = some v ∧ ad (j + 1) (pre j v * 64 + ((listW (bitsC l j (pre j v))).getD c 0).toNat) = ad (j + 1) (pre (j + 1) v)) := Lib.hid (fun hlt2 => by
            have h1 := HNC.out; have h2 := HSS.out
            obtain ⟨h3, h4⟩ := nth_child hup2.out hj10 (c := c) (by rw [← HKN.out]; omega) HV.out (by omega) (by omega)
            rw [show i - sumK l j (pre j v) c = i' by omega] at h3
            exact ⟨by rw [h4]; exact h3, by rw [h4]⟩)
          obtain ⟨A, hA⟩ : ∃ A, A = ad (j + 1) (pre j v * 64 + ((listW (bitsC l j (pre j v))).getD c 0).toNat) := ⟨_, rfl⟩
          rw [← hA] at hcc hy HIY
          have HY := Lib.hid hy
          have hyn6 : y.n ≤ 1000000 := by rw [hoky.n]; have := HLE.out (j + 1) (pre j v * 64 + ((listW (bitsC l j (pre j v))).getD c 0).toNat); omega
          have hii : i' ≤ 1000000 := by have := HNC.out; omega
          have HBi := Lib.hid (HFi.out.blk HBj.out (fun h => h))
          clear hA hy hoky
          by_cases hin : i' < y.n
          · have hin' : (i' : Int) < y.n := by omega
            obtain ⟨hv2, hA2⟩ := HIY.out hin
            have HV2 := Lib.hid hv2
            have HY2 : Hid (rows[ad (j + 1) (pre (j + 1) v)]? = some (some y)) := Lib.hid (by rw [← hA2]; exact HY.out)
            clear hv2 hA2
            go_wp2_with (first
              | (go_at_call 48; refine (tsee_calls t m p lim root l ad rows free cv fv _ c1 (HTj.out.pl.nw HFi.out) _ y HY.out).mono ?_; rintro e w2 ⟨rfl, hf2⟩; have hb2 := hf2.blk HBi.out (fun h => h); obtain ⟨r0, r1, r2, r3, r4⟩ := nd_cells hb2; have g0 := blk_frozen hb2 0; have g1 := blk_frozen hb2 1; have g2 := blk_frozen hb2 2; have g3 := blk_frozen hb2 3; have g4 := blk_frozen hb2 4; have HB2 := Lib.hid hb2; have HF2 := Lib.hid (HFi.out.trans hf2); have hbl2 := blk_lt hb2; clear hf2 hb2))
            go_roundw
            case rel =>
              have hfw : Nw w1 ((((((w2.setCell ⟨b0, 0, none⟩ (.int .u64 y.b)).setCell ⟨b0, 1, none⟩ (.slice y.ka y.kn y.kc)).setCell ⟨b0, 2, none⟩ (.int .i64 y.n)).setCell ⟨b0, 3, none⟩ (.int .u64 y.lo)).setCell ⟨b0, 4, none⟩ (.int .u64 y.hi)).alloc (.cells #[.int .u64 y.b, .slice y.ka y.kn y.kc, .int .i64 y.n, .int .u64 y.lo, .int .u64 y.hi] 73)) := ((HFj.out.trans HF2.out).trans_new (fr_put5 _ b0 y) (by omega)).alloc _
              have HTw := HT1.out.nw hfw
              exact ⟨j + 1, i', y, by omega, by omega, by go_num, rfl, HV2, Lib.hid (blk_alloc (blk_put5 HB2.out y) _), HY2, Lib.hid (ti_ok HTw (by omega) (fun e => by have := HV2.out; rw [e] at this; simp at this) HY2.out), Lib.hid hfw⟩
            case measure => simp [intOf]; omega
          · have hin' : ¬ (i' : Int) < y.n := by omega
            go_wp2_with (first
              | (go_at_call 48; refine (tsee_calls t m p lim root l ad rows free cv fv _ c1 (HTj.out.pl.nw HFi.out) _ y HY.out).mono ?_; rintro e w2 ⟨rfl, hf2⟩; have HF2 := Lib.hid (HFi.out.trans hf2); clear hf2))
            go_roundw
            case rel => exact ⟨c + 1, i' - y.n, by omega, by go_num, by go_num, Lib.hid (by have h1 := HNC.out; have h2 := HSS.out; omega), Lib.hid (HF2.out.alloc _)⟩
            case measure => simp [intOf]; omega
        · exfalso
          have h1 := sumK_all hup2.out j (pre j v) c hj10 (by rw [← HKN.out]; omega)
          have h2 := (List.getElem?_eq_some_iff.1 HV.out).1
          have h3 := HNC.out
          omega
    · have hlt' : ¬ (j : Int) < 10 := by omega
      obtain rfl : j = 10 := by omega
      obtain ⟨d, hd64, hd, hvd⟩ := sel_ten hup2.out HV.out
      have hcne : cls l 10 (pre 10 v) ≠ [] := fun e => by have := HV.out; rw [e] at this; simp at this
      have hxl : x.lo ∈ cls l 10 (pre 10 v) := by rw [HOKj.out.lo]; exact head_mem hcne 0
      obtain ⟨hxl1, hxl2⟩ := (mem_cls l 10 _ _).1 hxl
      have HJ : Hid (bits .or .u64 (bits .andNot .u64 (x.lo : Int) 63) (d : Int) = (v : Nat)) := Lib.hid (by rw [join_ten x.lo d (HBD.out _ hxl1) hd64, hxl2, ← hvd])
      have HSC : Hid (∀ w', Calls Tryd.prog 49 #[.int .u64 x.b, .int .i64 (i : Nat)] w' fun e w'' => e = .returned (.int .i64 (d : Nat)) ∧ w' = w'') := Lib.hid (fun w' => by have := bselect_calls x.b (i : Nat) w' HOKj.out.bl; rw [HOKj.out.b, hd] at this; rw [HOKj.out.b]; exact this)
      have HWD := u64w d (by omega)
      clear hd hvd hcne hxl hxl1 hxl2
      go_wp2
      refine wp_still 9 (by kernel_rfl) (by kernel_rfl) ?_
      simp only [List.take_succ_cons, List.take_zero, List.drop_succ_cons, List.drop_zero]
      repeat still_step
      still_call (Calls.mono (HSC.out _) (fun _ _ h => ⟨h.1, h.2.symm⟩))
      repeat still_step
      refine wpStill_nil ?_
      go_wp2
      go_returns
      exact ⟨by show Ending.returned (.tuple #[.int .u64 (bits .or .u64 (bits .andNot .u64 (x.lo : Int) 63) (d : Int)), .bool true]) = _; rw [HJ.out], HTj.out.nw (Fr.refl _ _).drew, HM1.out.fr (HFj.out.drew) (fun h => h), HF1.out.trans (HFj.out.drew.mono (fun _ _ h => h.elim))⟩
end Go.Proofs.YtnhdcefoigmjpaaDoor
