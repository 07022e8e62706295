/-
  strip's Select and Prev.
-/
import Derived.Test.YtiekoidlibhoeaaDoorStripNext
namespace Go.Proofs.YtiekoidlibhoeaaDoor
open Go.RowKit Go.Shelf Go.Proofs.YtiekoidlibhoeaaDoorW.PrintWords Go.Proofs.YtiekoidlibhoeaaDoorW.PrintMore
set_option linter.unusedVariables false
set_option linter.unusedSimpArgs false

/-! ### the plain part -/
theorem word_list (B k : Nat) : (listW (wordN B k)).map (fun x => 64 * (k : Int) + x) = bitsFrom B 64 (64 * k) := by
  refine sorted_ext ?_ (bitsFrom_sorted _ _ _) (fun x => ?_)
  · rw [List.pairwise_map]
    exact (listW_sorted _).imp (fun h => by omega)
  · rw [List.mem_map, mem_bitsFrom]
    constructor
    · rintro ⟨y, hy, rfl⟩
      rw [mem_listW, tb_wordN, Bool.and_eq_true, decide_eq_true_iff] at hy
      obtain ⟨h4, h5, h6, h7⟩ := hy
      exact ⟨64 * k + y.toNat, by omega, by omega, by omega, h7⟩
    · rintro ⟨j, rfl, h4, h5, h6⟩
      refine ⟨(j : Int) - 64 * (k : Int), ?_, by omega⟩
      rw [mem_listW, tb_wordN, Bool.and_eq_true, decide_eq_true_iff]
      refine ⟨by omega, by omega, by omega, ?_⟩
      rw [show 64 * k + ((j : Int) - 64 * (k : Int)).toNat = j by omega]
      exact h6
theorem word_cnt (B k : Nat) : cntN (wordN B k) = (bitsFrom B 64 (64 * k)).length := by rw [← word_list, List.length_map]; rfl
theorem listB_at (n B k : Nat) (h : k < n) : listB n B = bitsFrom B (64 * k) 0 ++ (bitsFrom B 64 (64 * k) ++ bitsFrom B (64 * n - 64 * (k + 1)) (64 * (k + 1))) := by
  obtain ⟨m, hm⟩ : ∃ m, m = 64 * n - 64 * (k + 1) := ⟨_, rfl⟩
  rw [← hm, listB, show 64 * n = 64 * k + (64 + m) by omega, bits_split, Nat.zero_add, bits_split]
  rfl
theorem sel_here (n B k m : Nat) (h : k < n) (h1 : (bitsFrom B (64 * k) 0).length ≤ m) (h2 : m - (bitsFrom B (64 * k) 0).length < cntN (wordN B k)) :
    selectL (listB n B) m = 64 * (k : Int) + selectL (listW (wordN B k)) ((m - (bitsFrom B (64 * k) 0).length : Nat) : Int) := by
  have hw : m - (bitsFrom B (64 * k) 0).length < (listW (wordN B k)).length := h2
  rw [selectL, selectL, if_neg (by omega), if_neg (by omega), Int.toNat_natCast, Int.toNat_natCast, listB_at n B k h, List.getD_eq_getElem?_getD, List.getElem?_append_right h1, List.getElem?_append_left (by rw [← word_cnt]; exact h2), ← word_list]
  rw [List.getElem?_map, List.getD_eq_getElem?_getD, List.getElem?_eq_getElem hw]
  rfl
theorem sel_end (n B m : Nat) (h : (bitsFrom B (64 * n) 0).length ≤ m) : selectL (listB n B) m = -1 := by
  rw [selectL, if_neg (by omega), Int.toNat_natCast, List.getD_eq_getElem?_getD, List.getElem?_eq_none (show (listB n B).length ≤ m from h)]; rfl
theorem sel_step (B k : Nat) : (bitsFrom B (64 * (k + 1)) 0).length = (bitsFrom B (64 * k) 0).length + cntN (wordN B k) := by
  rw [show 64 * (k + 1) = 64 * k + 64 by omega, bits_split, Nat.zero_add, List.length_append, word_cnt]

def lastB (B m : Nat) : Int := (bitsFrom B m 0).getLastD (-1)
theorem getLastD_append (a b : List Int) (d : Int) : (a ++ b).getLastD d = b.getLastD (a.getLastD d) := by
  cases b with
  | nil => simp
  | cons x r => rw [List.getLastD_eq_getLast?, List.getLastD_eq_getLast?, List.getLast?_append]; simp [List.getLast?_cons]
theorem high_bd (w : Nat) : highN w = -1 ∨ (0 ≤ highN w ∧ highN w < 64) := by
  unfold highN
  cases hl : (listW w).getLast? with
  | none => left; rw [List.getLastD_eq_getLast?, hl]; rfl
  | some x =>
    right
    have hm := (mem_listW w x).1 (List.mem_of_getLast? hl)
    rw [List.getLastD_eq_getLast?, hl]
    exact ⟨hm.1, hm.2.1⟩
theorem getLastD_map (l : List Int) (c d : Int) (h : l ≠ []) : (l.map (fun x => c + x)).getLastD d = c + l.getLastD (-1) := by
  rw [List.getLastD_eq_getLast?, List.getLastD_eq_getLast?, List.getLast?_map]
  cases hl : l.getLast? with
  | none => exact absurd (List.getLast?_eq_none_iff.1 hl) h
  | some x => rfl
theorem last_step (B m : Nat) : lastB B (64 * (m + 1)) = if highN (wordN B m) < 0 then lastB B (64 * m) else 64 * (m : Int) + highN (wordN B m) := by
  unfold lastB
  rw [show 64 * (m + 1) = 64 * m + 64 by omega, bits_split, Nat.zero_add, getLastD_append, ← word_list]
  unfold highN
  by_cases hl : listW (wordN B m) = []
  · rw [hl]; rfl
  · have hx : ¬ (listW (wordN B m)).getLastD (-1) < 0 := by
      cases h2 : (listW (wordN B m)).getLast? with
      | none => exact absurd (List.getLast?_eq_none_iff.1 h2) hl
      | some x =>
        rw [List.getLastD_eq_getLast?, h2]
        have := ((mem_listW _ x).1 (List.mem_of_getLast? h2)).1
        simp; omega
    rw [if_neg hx, getLastD_map _ _ _ hl]
theorem prev_listB (n B : Nat) (i : Int) (h0 : 0 ≤ i) (hn : 0 < n) : prevL (listB n B) i = lastB B ((min i (64 * n - 1)).toNat + 1) := by
  rw [prevL_last, lastB]
  congr 1
  refine sorted_ext ((listB_sorted _ _).filter _) (bitsFrom_sorted _ _ _) (fun x => ?_)
  rw [List.mem_filter, mem_listB, mem_bitsFrom, decide_eq_true_iff]
  constructor
  · rintro ⟨⟨h1, h2, h3⟩, h4⟩; exact ⟨x.toNat, by omega, by omega, by omega, h3⟩
  · rintro ⟨j, rfl, h1, h2, h3⟩; exact ⟨⟨by omega, by omega, by simpa using h3⟩, by omega⟩
theorem prev_bd (w : Nat) (i : Int) : prevL (listW w) i = -1 ∨ (0 ≤ prevL (listW w) i ∧ prevL (listW w) i < 64) := by
  rw [prevL_last]
  cases hl : ((listW w).filter (fun x => decide (x ≤ i))).getLast? with
  | none => left; rw [List.getLastD_eq_getLast?, hl]; rfl
  | some x =>
    right
    have hm := (mem_listW w x).1 (List.mem_filter.1 (List.mem_of_getLast? hl)).1
    rw [List.getLastD_eq_getLast?, hl]
    exact ⟨hm.1, hm.2.1⟩
/-- The last one up to k: in k's own word, or ahead of it. -/
theorem last_word (B k : Nat) : lastB B (k + 1) = if prevL (listW (wordN B (k / 64))) ((k : Int) % 64) < 0 then lastB B (64 * (k / 64)) else 64 * ((k / 64 : Nat) : Int) + prevL (listW (wordN B (k / 64))) ((k : Int) % 64) := by
  have hsp : k + 1 = 64 * (k / 64) + (k % 64 + 1) := by omega
  have hm : ((listW (wordN B (k / 64))).filter (fun x => decide (x ≤ (k : Int) % 64))).map (fun x => 64 * ((k / 64 : Nat) : Int) + x) = bitsFrom B (k % 64 + 1) (64 * (k / 64)) := by
    refine sorted_ext ?_ (bitsFrom_sorted _ _ _) (fun x => ?_)
    · rw [List.pairwise_map]
      exact ((listW_sorted _).filter _).imp (fun h => by omega)
    · rw [List.mem_map, mem_bitsFrom]
      constructor
      · rintro ⟨y, hy, rfl⟩
        rw [List.mem_filter, mem_listW, tb_wordN, Bool.and_eq_true, decide_eq_true_iff, decide_eq_true_iff] at hy
        obtain ⟨⟨h4, h5, h6, h7⟩, h8⟩ := hy
        exact ⟨64 * (k / 64) + y.toNat, by omega, by omega, by omega, h7⟩
      · rintro ⟨j, rfl, h4, h5, h6⟩
        refine ⟨(j : Int) - 64 * ((k / 64 : Nat) : Int), ?_, by omega⟩
        rw [List.mem_filter, mem_listW, tb_wordN, Bool.and_eq_true, decide_eq_true_iff, decide_eq_true_iff]
        refine ⟨⟨by omega, by omega, by omega, ?_⟩, by omega⟩
        rw [show 64 * (k / 64) + ((j : Int) - 64 * ((k / 64 : Nat) : Int)).toNat = j by omega]
        exact h6
  unfold lastB
  conv => lhs; rw [hsp]
  rw [bits_split, Nat.zero_add, getLastD_append, ← hm, prevL_last]
  by_cases hl : (listW (wordN B (k / 64))).filter (fun x => decide (x ≤ (k : Int) % 64)) = []
  · rw [hl]; rfl
  · have hx : ¬ ((listW (wordN B (k / 64))).filter (fun x => decide (x ≤ (k : Int) % 64))).getLastD (-1) < 0 := by
      cases h2 : ((listW (wordN B (k / 64))).filter (fun x => decide (x ≤ (k : Int) % 64))).getLast? with
      | none => exact absurd (List.getLast?_eq_none_iff.1 h2) hl
      | some x =>
        rw [List.getLastD_eq_getLast?, h2]
        have := ((mem_listW _ x).1 (List.mem_filter.1 (List.mem_of_getLast? h2)).1).1
        simp; omega
    rw [if_neg hx, getLastD_map _ _ _ hl]

/-! ### Select -/
set_option maxRecDepth 100000 in
set_option maxHeartbeats 2000000 in
theorem sselect_calls (p q n B : Nat) (m : Int) (w : World) (h : St w p q n B) (hmx : m ≤ 9223372036854775807) :
    Calls Tryd.prog 46 #[.pointer (some ⟨p, 0, none⟩), .int .i64 m] w fun e w' => e = .returned (.int .i64 (selectL (listB n B) m)) ∧ Nw w w' := by
  have HS := Lib.hid h
  have hn := h.le
  obtain ⟨c, h4⟩ := h.head
  have hc : w.cell? ⟨p, 0, none⟩ = some (.slice (some ⟨q, 0, none⟩) n c) := blk_cell h4 0
  clear h h4
  by_cases hm : m < 0
  · have HR : Hid (selectL (listB n B) m = -1) := Lib.hid (by rw [selectL, if_pos hm])
    go_enter Tryd.func46, Tryd.ntmps46
    go_wp2
    go_ret
    exact ⟨by rw [HR.out]; rfl, Fr.refl _ _⟩
  · obtain ⟨k, rfl⟩ : ∃ k : Nat, m = k := ⟨m.toNat, by omega⟩
    go_enter Tryd.func46, Tryd.ntmps46
    go_wp2
    go_loopw [1, 5, 6, 7, 19] (fun kk _ _ _ ii wr => ∃ (j r : Nat), j ≤ n ∧ ii = .int .i64 j ∧ kk = .int .i64 r ∧ Hid (k = (bitsFrom B (64 * j) 0).length + r) ∧ Hid (Nw w wr)) (fun _ _ _ _ ii _ => n - (intOf ii).toNat)
    case atStart => exact ⟨0, k, Nat.zero_le _, rfl, rfl, Lib.hid (by simp [bitsFrom]), Lib.hid (Fr.refl _ _)⟩
    case round =>
      obtain ⟨j, r, hj, rfl, rfl, HK, HN⟩ := hrel
      by_cases hlt : j < n
      · obtain ⟨_, _, hw2, _⟩ := (HS.out.nw HN.out (fun h => h) (fun h => h)).word hlt
        have hwl := wordN_lt B j
        have HC := Lib.hid (fun w' => count_calls (wordN B j) w' hwl)
        have HSel := Lib.hid (fun w' => bselect_calls (wordN B j) (r : Int) w' hwl)
        have HH : Hid (r < cntN (wordN B j) → selectL (listB n B) k = 64 * (j : Int) + selectL (listW (wordN B j)) (r : Int)) := Lib.hid (fun h => by
          have := sel_here n B j k hlt (by rw [HK.out]; omega) (by rw [HK.out, Nat.add_sub_cancel_left]; exact h)
          rw [this, HK.out, Nat.add_sub_cancel_left])
        have HSt := Lib.hid (sel_step B j)
        have hsb : selectL (listW (wordN B j)) (r : Int) ≤ 64 ∧ -1 ≤ selectL (listW (wordN B j)) (r : Int) := by
          rw [selectL, if_neg (by omega), Int.toNat_natCast, List.getD_eq_getElem?_getD]
          cases hg : (listW (wordN B j))[r]? with
          | none => simp
          | some x =>
            have := (mem_listW _ x).1 (List.mem_of_getElem? hg)
            simp; omega
        obtain ⟨sl, hsl⟩ : ∃ x, x = selectL (listW (wordN B j)) (r : Int) := ⟨_, rfl⟩
        obtain ⟨cn, hcn⟩ : ∃ x, x = cntN (wordN B j) := ⟨_, rfl⟩
        have hcl := cntN_le (wordN B j)
        rw [← hsl] at HSel HH hsb
        rw [← hcn] at HC HH HSt hcl
        obtain ⟨wd, hwd⟩ : ∃ x, x = wordN B j := ⟨_, rfl⟩
        rw [← hwd] at hw2 HC HSel
        clear hsl hcn hwd hwl
        obtain ⟨hs1, hs2⟩ := hsb
        by_cases hr : r < cn
        · have hr' : (r : Int) < cn := by omega
          have HE := Lib.hid (HH.out hr)
          go_wp2_with (first | (go_at_call 44; refine (HC.out _).mono ?_; rintro e w' ⟨rfl, rfl⟩) | (go_at_call 68; refine (HSel.out _).mono ?_; rintro e w' ⟨rfl, rfl⟩))
          go_ret
          exact ⟨by rw [HE.out]; rfl, HN.out⟩
        · have hr' : ¬ (r : Int) < cn := by omega
          have hw64 : wrap64 ((r : Int) - (cn : Int)) = ((r - cn : Nat) : Int) := by have := HK.out; unfold wrap64; omega
          go_wp2_with (first | (go_at_call 44; refine (HC.out _).mono ?_; rintro e w' ⟨rfl, rfl⟩) | (go_at_call 68; refine (HSel.out _).mono ?_; rintro e w' ⟨rfl, rfl⟩))
          go_roundw
          case rel => exact ⟨j + 1, r - cn, by omega, by go_num, by rw [hw64], Lib.hid (by rw [HSt.out, HK.out]; omega), HN⟩
          case measure => simp [intOf]; omega
      · have HE : Hid (selectL (listB n B) k = -1) := Lib.hid (sel_end n B k (by rw [HK.out, show j = n by omega]; omega))
        go_wp2
        go_ret
        exact ⟨by rw [HE.out]; rfl, HN.out⟩

/-! ### Prev -/
set_option maxRecDepth 100000 in
set_option maxHeartbeats 2000000 in
theorem sprev_calls (p q n B : Nat) (i : Int) (w : World) (h : St w p q n B) :
    Calls Tryd.prog 52 #[.pointer (some ⟨p, 0, none⟩), .int .i64 i] w fun e w' => e = .returned (.int .i64 (prevL (listB n B) i)) ∧ Nw w w' := by
  have HS := Lib.hid h
  have hn := h.le
  have HB := Lib.hid (fun w h => bits_calls p q n B w h)
  by_cases hi : i < 0
  · have HR : Hid (prevL (listB n B) i = -1) := Lib.hid (by
      rw [prevL_last, List.filter_eq_nil_iff.2 (fun x hx => by rw [mem_listB] at hx; simp; omega)]; rfl)
    clear h
    go_enter Tryd.func52, Tryd.ntmps52
    go_wp2_with (go_at_call 72; refine (HB.out _ HS.out).mono ?_; rintro e w' ⟨rfl, rfl⟩)
    go_ret
    exact ⟨by rw [HR.out]; rfl, Fr.refl _ _⟩
  by_cases hn0 : n = 0
  · subst hn0
    have HR : Hid (prevL (listB 0 B) i = -1) := Lib.hid rfl
    clear h
    go_enter Tryd.func52, Tryd.ntmps52
    go_wp2_with (go_at_call 72; refine (HB.out _ HS.out).mono ?_; rintro e w' ⟨rfl, rfl⟩)
    go_ret
    exact ⟨by rw [HR.out]; rfl, Fr.refl _ _⟩
  · have hpl := prev_listB n B i (by omega) (by omega)
    obtain ⟨k, hk⟩ : ∃ k : Nat, min i (64 * (n : Int) - 1) = k := ⟨(min i (64 * (n : Int) - 1)).toNat, by omega⟩
    rw [hk, Int.toNat_natCast, last_word] at hpl
    have hkn : k < 64 * n := by omega
    obtain ⟨c, hw1, hw2, _⟩ := h.word (k := k / 64) (by omega)
    have hk2 : (k : Int) / 64 < n := by omega
    have hwl := wordN_lt B (k / 64)
    have HP := Lib.hid (fun w' => bprev_calls (wordN B (k / 64)) ((k : Int) % 64) w' hwl)
    have hpb := prev_bd (wordN B (k / 64)) ((k : Int) % 64)
    obtain ⟨pv, hpv⟩ : ∃ x, x = prevL (listW (wordN B (k / 64))) ((k : Int) % 64) := ⟨_, rfl⟩
    rw [← hpv] at hpl HP hpb
    obtain ⟨wd, hwd⟩ : ∃ x, x = wordN B (k / 64) := ⟨_, rfl⟩
    rw [← hwd] at hw2 HP
    have HPl := Lib.hid hpl
    have hn1 : ((64 * (n : Int)) == 0) = false := by rw [beq_eq_false_iff_ne]; omega
    clear hpl hpv hwd hwl h
    go_enter Tryd.func52, Tryd.ntmps52
    go_wp2_with (first | (go_at_call 72; refine (HB.out _ HS.out).mono ?_; rintro e w' ⟨rfl, rfl⟩) | (go_at_call 74; refine (HP.out _).mono ?_; rintro e w' ⟨rfl, rfl⟩))
    go_loopw [1, 6, 7] (fun ii kk aa wr => ∃ (m : Nat) (x : Int) (ic : Nat), aa = .int .i64 ((m : Int) - 1) ∧ kk = .int .i64 x ∧ ii = .int .i64 ic ∧ m ≤ k / 64 ∧ (x = -1 ∨ 0 ≤ x ∧ x < 64) ∧ ic < 64 * n ∧ Hid (prevL (listB n B) i = if x < 0 then lastB B (64 * m) else 64 * ((ic / 64 : Nat) : Int) + x) ∧ Hid (Nw w wr)) (fun _ _ aa _ => (intOf aa + 1).toNat)
    case atStart => exact ⟨k / 64, pv, k, by go_num, rfl, rfl, Nat.le_refl _, hpb, hkn, HPl, Lib.hid (Fr.refl _ _)⟩
    case round =>
      obtain ⟨m, x, ic, rfl, rfl, rfl, hmk, hxb, hic, HP2, HN⟩ := hrel
      clear hpb hw2 hw1 hk
      by_cases hx : x < 0
      · have hx1 : x = -1 := by omega
        subst hx1
        have HP3 : Hid (prevL (listB n B) i = lastB B (64 * m)) := Lib.hid (by rw [HP2.out, if_pos hx])
        clear HP2 hxb
        cases m with
        | zero =>
          have HE : Hid (prevL (listB n B) i = -1) := Lib.hid (by rw [HP3.out]; rfl)
          go_wp2
          go_ret
          exact ⟨by rw [HE.out]; rfl, HN.out⟩
        | succ m =>
          obtain ⟨c', hw1, hw2, _⟩ := (HS.out.nw HN.out (fun h => h) (fun h => h)).word (k := m) (by omega)
          have hwl := wordN_lt B m
          have HH := Lib.hid (fun w' => high_calls (wordN B m) w' hwl)
          have hb := high_bd (wordN B m)
          have HL := Lib.hid (last_step B m)
          obtain ⟨hv, hhv⟩ : ∃ x, x = highN (wordN B m) := ⟨_, rfl⟩
          rw [← hhv] at HH hb HL
          obtain ⟨wd, hwd⟩ : ∃ x, x = wordN B m := ⟨_, rfl⟩
          rw [← hwd] at hw2 HH
          clear hhv hwd hwl
          have hm1 : ((m + 1 : Nat) : Int) - 1 = (m : Int) := by omega
          rw [hm1]
          have hm2 : ¬ (m : Int) < 0 := by omega
          have hm3 : (m : Int) < n := by omega
          go_wp2_with (go_at_call 75; refine (HH.out _).mono ?_; rintro e w' ⟨rfl, rfl⟩)
          go_roundw
          case rel => exact ⟨m, hv, 64 * m, rfl, rfl, by go_num, by omega, hb, by omega, Lib.hid (by rw [HP3.out, HL.out, show 64 * m / 64 = m by omega]), HN⟩
          case measure => first | (simp [intOf]; done) | (simp [intOf]; omega)
      · have HE : Hid (prevL (listB n B) i = (ic : Int) / 64 * 64 + x) := Lib.hid (by rw [HP2.out, if_neg hx]; omega)
        clear HP2
        go_wp2
        go_ret
        exact ⟨by rw [HE.out]; rfl, HN.out⟩

end Go.Proofs.YtiekoidlibhoeaaDoor
