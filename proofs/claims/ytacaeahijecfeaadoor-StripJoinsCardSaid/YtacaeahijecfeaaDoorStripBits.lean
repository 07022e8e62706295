/-
  The references Word and Bits: the words of a list of set bits.
-/
import Derived.Test.YtacaeahijecfeaaDoorStripLay
namespace Go.Proofs.YtacaeahijecfeaaDoor
open Go.RowKit Go.Shelf Go.Proofs.YtacaeahijecfeaaDoorW.PrintWords Go.Proofs.YtacaeahijecfeaaDoorW.PrintMore
set_option linter.unusedVariables false
set_option linter.unusedSimpArgs false

theorem half_step (u j : Nat) : u / 2 ^ j = 2 * (u / 2 ^ (j + 1)) + (if u.testBit j then 1 else 0) := by
  rw [Nat.pow_succ, ← Nat.div_div_eq_div_mul, Nat.testBit_eq_decide_div_mod_eq]
  have := Nat.div_add_mod (u / 2 ^ j) 2
  have h2 : u / 2 ^ j % 2 < 2 := Nat.mod_lt _ (by decide)
  by_cases h : u / 2 ^ j % 2 = 1
  · simp [h]; omega
  · simp [h]; omega
theorem has_listW (u : Nat) (j : Nat) (h : j < 64) : hasL (listW u) (j : Int) = u.testBit j := by
  rw [hasL, Bool.eq_iff_iff, decide_eq_true_iff, mem_listW]
  constructor
  · rintro ⟨_, _, h⟩; simpa using h
  · intro h2; exact ⟨by omega, by omega, by simpa using h2⟩

set_option maxRecDepth 100000 in
set_option maxHeartbeats 2000000 in
theorem refword_calls (A : Option Addr) (c u : Nat) (w : World) (hu : u < 18446744073709551616) (hr : Kd.C (Kd.int .i64) w A (listW u).length (listW u)) :
    Calls Tryd.prog 46 #[.slice A (listW u).length c] w fun e w' => e = .returned (.int .u64 u) ∧ Nw w w' := by
  have hl := listW_len u
  have HH := Lib.hid (fun (i : Int) W (h : Nw w W) => has_calls A c (listW u) i W (Kd.C_below hr (h.below (fun _ _ h => h))) (by omega))
  obtain ⟨L, hL⟩ : ∃ L, L = (listW u).length := ⟨_, rfl⟩
  rw [← hL] at HH ⊢
  clear hr hl hL
  go_enter Tryd.func46, Tryd.ntmps46
  go_wp2
  go_loopw [3, 4] (fun ww ii wr => ∃ (m v : Nat), m ≤ 64 ∧ ii = .int .i64 ((m : Int) - 1) ∧ ww = .int .u64 v ∧ Hid (v = u / 2 ^ m) ∧ Hid (Nw w wr)) (fun _ ii _ => (intOf ii + 1).toNat)
  case atStart => exact ⟨64, 0, Nat.le_refl _, by go_num, rfl, Lib.hid (by rw [Nat.div_eq_of_lt (by rw [← U64_pow]; exact hu)]), Lib.hid (Fr.refl _ _)⟩
  case round =>
    obtain ⟨m, v, hm, rfl, rfl, HV, HN⟩ := hrel
    cases m with
    | zero =>
      have HE : Hid (v = u) := Lib.hid (by rw [HV.out]; simp)
      go_wp2
      go_ret
      exact ⟨by rw [HE.out]; rfl, HN.out⟩
    | succ m =>
      have hm1 : ((m + 1 : Nat) : Int) - 1 = (m : Int) := by omega
      rw [hm1]
      have hm2 : ¬ (m : Int) < 0 := by omega
      have hvb : v < 18446744073709551616 / 2 := by
        rw [HV.out]
        have : u / 2 ^ (m + 1) ≤ u / 2 := by
          rw [Nat.pow_succ, Nat.mul_comm, ← Nat.div_div_eq_div_mul]; exact Nat.div_le_self _ _
        omega
      have hv2 : IntKind.u64.wrap ((v : Int) * 2) = ((v * 2 : Nat) : Int) := by
        have := u64w (v * 2) (by omega)
        rw [← this]; rfl
      have hv3 : IntKind.u64.wrap (((v * 2 : Nat) : Int) + 1) = ((v * 2 + 1 : Nat) : Int) := by
        have := u64w (v * 2 + 1) (by omega)
        rw [← this]; rfl
      have HSt := Lib.hid (half_step u m)
      have HHm := Lib.hid (fun W h => HH.out (m : Int) W h)
      rw [has_listW u m (by omega)] at HHm
      cases ht : u.testBit m with
      | true =>
        rw [ht] at HHm HSt
        go_wp2_with (go_at_call 31; refine (HHm.out _ HN.out).mono ?_; rintro e w' ⟨rfl, rfl⟩)
        go_roundw
        case rel => exact ⟨m, v * 2 + 1, by omega, by go_num, by first | rfl | (rw [hv3]) | go_num, Lib.hid (by rw [HSt.out, ← HV.out]; simp; omega), HN⟩
        case measure => first | (simp [intOf]; done) | (simp [intOf]; omega)
      | false =>
        rw [ht] at HHm HSt
        go_wp2_with (go_at_call 31; refine (HHm.out _ HN.out).mono ?_; rintro e w' ⟨rfl, rfl⟩)
        go_roundw
        case rel => exact ⟨m, v * 2, by omega, by go_num, by first | rfl | go_num, Lib.hid (by rw [HSt.out, ← HV.out, if_neg (by decide)]; omega), HN⟩
        case measure => first | (simp [intOf]; done) | (simp [intOf]; omega)

/-! ### Bits -/
/-- What of a list lies in word k. -/
def inWord (l : List Int) (k : Nat) : List Int := (l.filter (fun x => decide (x / 64 = (k : Int)))).map (fun x => x % 64)
theorem inWord_listB (n B k : Nat) (h : k < n) : inWord (listB n B) k = listW (wordN B k) := by
  unfold inWord
  refine sorted_ext ?_ (listW_sorted _) (fun x => ?_)
  · rw [List.pairwise_map]
    refine (List.Pairwise.filter _ (listB_sorted n B)).imp_of_mem (fun {a b} ha hb hab => ?_)
    have h1 := of_decide_eq_true (List.mem_filter.1 ha).2
    have h2 := of_decide_eq_true (List.mem_filter.1 hb).2
    omega
  · rw [List.mem_map, mem_listW, tb_wordN, Bool.and_eq_true, decide_eq_true_iff]
    constructor
    · rintro ⟨y, hy, rfl⟩
      obtain ⟨h1, h2⟩ := List.mem_filter.1 hy
      have h2 := of_decide_eq_true h2
      obtain ⟨h3, h4, h5⟩ := (mem_listB n B y).1 h1
      refine ⟨by omega, by omega, by omega, ?_⟩
      rw [show 64 * k + (y % 64).toNat = y.toNat by omega]
      exact h5
    · rintro ⟨h1, h2, h3, h4⟩
      refine ⟨64 * (k : Int) + x, ?_, by omega⟩
      rw [List.mem_filter, mem_listB]
      refine ⟨⟨by omega, by omega, ?_⟩, decide_eq_true (by omega)⟩
      rw [show (64 * (k : Int) + x).toNat = 64 * k + x.toNat by omega]
      exact h4
theorem inWord_snoc (l : List Int) (x : Int) (k : Nat) : inWord (l ++ [x]) k = inWord l k ++ if x / 64 = (k : Int) then [x % 64] else [] := by
  unfold inWord
  rw [List.filter_append, List.map_append]
  congr 1
  by_cases h : x / 64 = (k : Int) <;> simp [h]
theorem inWord_len (l : List Int) (k : Nat) : (inWord l k).length ≤ l.length := by
  unfold inWord
  rw [List.length_map]; exact List.length_filter_le _ _

/-- Block g holds the words of a number. -/
def WR (W : World) (g n B : Nat) : Prop := ∃ cur : Array Value, W.heap[g]? = some (.cells cur 48 (0, 0)) ∧ n ≤ cur.size ∧ cur.toList.take n = (wordsI n B).map (Value.int .u64)
theorem WR.put {W : World} {g n B k B' u : Nat} (h : WR W g n B) (hu : wordN B' k = u) (ho : ∀ j, j ≠ k → wordN B' j = wordN B j) : WR (W.setCell ⟨g, k, none⟩ (.int .u64 u)) g n B' := by
  obtain ⟨cur, h7, h8, h9⟩ := h
  refine ⟨_, blk_set h7 k _, by simpa using h8, ?_⟩
  rw [Array.toList_setIfInBounds, List.take_set, h9, ← words_set n B B' k (u : Int) (by rw [hu]) ho, List.map_set]
theorem WR.frozen {W : World} {g n B : Nat} (h : WR W g n B) (k : Nat) : W.frozen? ⟨g, k, none⟩ = false := by obtain ⟨cur, h7, _⟩ := h; exact blk_frozen h7 _
theorem WR.cell {W : World} {g n B k : Nat} (h : WR W g n B) (hk : k < n) : W.cell? ⟨g, k, none⟩ = some (.int .u64 (wordN B k)) := by
  obtain ⟨cur, h7, h8, h9⟩ := h
  rw [blk_cell h7]
  have h1 : (cur.toList.take n)[k]? = some (Value.int .u64 (wordN B k)) := by
    rw [h9, List.getElem?_map, List.getElem?_eq_getElem (by rw [wordsI_len]; exact hk), wordsI_get]; rfl
  rw [List.getElem?_take, if_pos hk] at h1
  simpa using h1
theorem mod_word (B k : Nat) : wordN (B % 2 ^ (64 * (k + 1))) k = wordN B k := by
  apply Nat.eq_of_testBit_eq; intro j
  rw [tb_wordN, tb_wordN, Nat.testBit_mod_two_pow]
  by_cases hj : j < 64
  · rw [decide_eq_true (by omega : 64 * k + j < 64 * (k + 1))]; simp
  · simp [hj]
theorem mod_other (B k j : Nat) (h : j ≠ k) : wordN (B % 2 ^ (64 * (k + 1))) j = wordN (B % 2 ^ (64 * k)) j := by
  apply Nat.eq_of_testBit_eq; intro i
  rw [tb_wordN, tb_wordN, Nat.testBit_mod_two_pow, Nat.testBit_mod_two_pow]
  by_cases hi : i < 64
  · congr 2
    apply decide_eq_decide.2; omega
  · simp [hi]


set_option maxRecDepth 100000 in
set_option maxHeartbeats 4000000 in
theorem refbits_calls (A : Option Addr) (c n B : Nat) (w : World) (hn : n ≤ 4096) (hB : B < 2 ^ (64 * n)) (hr : Kd.C (Kd.int .i64) w A (listB n B).length (listB n B)) :
    Calls Tryd.prog 20 #[.agg #[.int .i64 n, .slice A (listB n B).length c]] w fun e w' => ∃ g cap, e = .returned (.slice (some ⟨g, 0, none⟩) n cap) ∧ w.heap.size ≤ g ∧ WR w' g n B ∧ Nw w w' := by
  have HR := Lib.hid hr
  have hll := listB_len n B
  have HBd := Lib.hid (fun k (h : k < (listB n B).length) => (mem_listB n B _).1 (List.getElem_mem h))
  have HIn := Lib.hid (fun k (h : k < n) => inWord_listB n B k h)
  obtain ⟨l, hl⟩ : ∃ l, l = listB n B := ⟨_, rfl⟩
  have HL := Lib.hid hl
  rw [← hl] at HR hll HIn ⊢
  have HBd2 : Hid (∀ k (h : k < l.length), 0 ≤ l[k] ∧ l[k] < 64 * n) := Lib.hid (fun k h => by
    subst hl
    have := HBd.out k h
    exact ⟨this.1, this.2.1⟩)
  clear hr HBd hl
  go_enter Tryd.func20, Tryd.ntmps20
  have hN1 : Nw w (w.alloc (.cells #[.int .i64 n, .slice A l.length c] 27)) := (Fr.refl _ _).alloc _
  go_wp2_with (refine Kd.R_make (Kd.int .u64) (w0 := w.alloc (.cells #[.int .i64 n, .slice A l.length c] 27)) (w.heap.size + 1) 48 rfl rfl 36 (.tmp 9) (.tmp 9) rfl n rfl rfl Tryd.underlying36 (.int .u64 0) 8 (by kernel_rfl) rfl (by decide) (by decide) (0 : Int) (ok := fun _ => True) (okp := fun _ => False) rfl (fun _ h => h.elim) trivial (by omega) (by simp; omega) (Below.refl _ _) (by simp) ?_; intro v1 w1 ho hb hg hat; obtain ⟨A1, c1, rfl, hc, hC⟩ := Kd.R_reads ho)
  obtain ⟨hlen, hrow⟩ := Kd.own_of_R ho
  rcases hrow with ⟨hnil, _⟩ | ⟨g, cap, cur, hv, hg1, hblk, h1, h2, h3, h4⟩
  · obtain ⟨b, hb1, _⟩ := hat
    rw [hnil] at hb1; simp [Value.ownBlock] at hb1
  injection hv with hA _ hcap
  subst hA
  subst hcap
  have hW0 : wordsI n (B % 2 ^ (64 * 0)) = List.replicate n 0 := by
    apply List.ext_getElem (by simp [wordsI])
    intro i a b
    simp [wordsI, wordN, Nat.mod_one]
  have hWR : WR w1 g n (B % 2 ^ (64 * 0)) := ⟨cur, hblk, by simp at h1 h3; omega, by rw [hW0]; simpa [encs] using h4⟩
  have hNw1 : Nw w w1 := hN1.trans_of (T := fun _ => False) ⟨hb.os, hb.tape, hb.output, hb.size, fun k hk _ => hg.block k hk (by simp)⟩ (fun _ _ h => h)
  have hbox : w1.heap[w.heap.size]? = some (.cells #[.int .i64 n, .slice A l.length c] 27 (0, 0)) := (hb.block _ (Nat.lt_succ_self _)).trans (blk_new _ _)
  have hgw : w.heap.size + 1 ≤ g := hg1
  have HWR := Lib.hid hWR
  have HN1 := Lib.hid hNw1
  have HBox := Lib.hid hbox
  clear hW0 hWR hNw1 hbox hblk h1 h2 h3 h4 hg hb hat ho hC hlen hN1 hg1
  go_loopw [4, 5, 7, 13] (fun _ _ _ ii wr => ∃ k : Nat, k ≤ n ∧ ii = .int .i64 k ∧ Hid (WR wr g n (B % 2 ^ (64 * k))) ∧ Hid (Nw w wr) ∧ Hid (wr.heap[w.heap.size]? = some (.cells #[.int .i64 n, .slice A l.length c] 27 (0, 0)))) (fun _ _ _ ii _ => n - (intOf ii).toNat)
  case atStart => exact ⟨0, Nat.zero_le _, rfl, HWR, HN1, HBox⟩
  case round =>
    obtain ⟨k, hk, rfl, HW, HN, HBx⟩ := hrel
    by_cases hlt : k < n
    · have hx1 : wr.cell? ⟨w.heap.size, 1, none⟩ = some (.slice A l.length c) := blk_cell HBx.out 1
      obtain ⟨W0, hW0⟩ : ∃ W0, W0 = wr := ⟨_, rfl⟩
      rw [← hW0] at HW HN HBx hx1 ⊢
      clear hW0
      have HC0 := Lib.hid (Kd.C_below HR.out (HN.out.below (fun _ _ h => h)))
      go_wp2
      go_loopw [5, 7, 19] (fun b _ ii w5 => ∃ (j : Nat) (acc : List Int), j ≤ l.length ∧ ii = .int .i64 j ∧ acc.length ≤ j ∧ Hid (acc = inWord (l.take j) k) ∧ Hid (Kd.R (Kd.int .i64) 3 w5 W0.heap.size (fun _ => True) b acc) ∧ Hid (Below W0.heap.size W0 w5)) (fun _ _ ii _ => l.length - (intOf ii).toNat)
      case atStart => exact ⟨0, [], Nat.zero_le _, rfl, Nat.le_refl _, Lib.hid rfl, Lib.hid (Kd.R_nil _ _ _ _ _), Lib.hid (Below.refl _ _)⟩
      case round =>
        obtain ⟨j, acc, hj, rfl, hac, HAc, HO, HB⟩ := hrel
        by_cases hjl : j < l.length
        · obtain ⟨ad, hA, hcell⟩ := at_nat HC0.out hjl
          cases hA
          have hcell := (HB.out.cell (World.block_lt_of_cell? W0 _ hcell)).trans hcell
          have HSn := Lib.hid (show inWord (l.take (j + 1)) k = inWord (l.take j) k ++ if l[j] / 64 = (k : Int) then [l[j] % 64] else [] by rw [List.take_succ_eq_append_getElem hjl, inWord_snoc])
          obtain ⟨hy0, hy1⟩ := HBd2.out j hjl
          obtain ⟨y, hy⟩ : ∃ y, y = l[j] := ⟨_, rfl⟩
          rw [← hy] at hcell HSn hy0 hy1
          clear hy
          by_cases hyk : y / 64 = (k : Int)
          · have HSn2 : Hid (inWord (l.take (j + 1)) k = acc ++ [y % 64]) := Lib.hid (by rw [HSn.out, if_pos hyk, HAc.out])
            have t1 : (y / 64 == (k : Int)) = true := by simp [hyk]
            clear HSn hyk
            go_wp2_with (at_builtin; refine Kd.R_append (Kd.int .i64) (w0 := W0) W0.heap.size rfl (.tmp 27) (.tmp 30) 25 3 (.int .i64 0) 8 rfl Tryd.underlying25 info_i64 rfl (by decide) (by omega) _ acc (y % 64) [.int .i64 (y % 64)] (fun _ => True) (fun _ => False) rfl rfl rfl (fun _ hk => hk.elim) (fun _ _ => trivial) HO.out HB.out HB.out.size (by (try simp only [List.length_append, List.length_cons, List.length_nil]); omega) ?_; intro v1 w1 ho hb hg hat; have HO' := Lib.hid ho; have HB' := Lib.hid hb; clear ho hb hg hat HO HB; have HO := HO'; have HB := HB'; clear HO' HB')
            go_roundw
            case rel => exact ⟨j + 1, acc ++ [y % 64], by omega, by go_num, by simp; omega, Lib.hid HSn2.out.symm, HO, HB⟩
            case measure => simp [intOf]; omega
          · have HSn2 : Hid (inWord (l.take (j + 1)) k = acc) := Lib.hid (by rw [HSn.out, if_neg hyk, HAc.out, List.append_nil])
            have t1 : (y / 64 == (k : Int)) = false := by simp [hyk]
            clear HSn hyk
            go_wp2
            go_roundw
            case rel => exact ⟨j + 1, acc, by omega, by go_num, by omega, Lib.hid HSn2.out.symm, HO, HB⟩
            case measure => simp [intOf]; omega
        · have hacc : acc = listW (wordN B k) := by rw [HAc.out, List.take_of_length_le (by omega)]; exact HIn.out k hlt
          subst hacc
          obtain ⟨A5, c5, rfl, _, hC5⟩ := Kd.R_reads HO.out
          have HWd := Lib.hid (refword_calls A5 c5 (wordN B k) wr (wordN_lt _ _) hC5)
          have HN5 : Hid (Nw w wr) := Lib.hid (HN.out.trans (Fr.of_below HB.out))
          have hgl : g < W0.heap.size := by obtain ⟨cur, hc, _⟩ := HW.out; exact blk_lt hc
          have hWR5 : WR wr g n (B % 2 ^ (64 * k)) := by obtain ⟨cur, hc, hc2⟩ := HW.out; exact ⟨cur, (HB.out.block g hgl).trans hc, hc2⟩
          have HWR5 := Lib.hid hWR5
          have HBx5 := Lib.hid ((HB.out.block _ (blk_lt HBx.out)).trans HBx.out)
          have HM1 := Lib.hid (mod_word B k)
          have HM2 := Lib.hid (mod_other B k)
          obtain ⟨u, hu⟩ : ∃ u, u = wordN B k := ⟨_, rfl⟩
          have hL9 : ∃ L9, L9 = (listW (wordN B k)).length := ⟨_, rfl⟩
          obtain ⟨L9, hL9⟩ := hL9
          rw [← hL9] at HWd ⊢
          rw [← hu] at HWd HM1
          clear hC5 HO HB HAc hac hWR5 hu hL9
          have hk2 : (k : Int) < n := by omega
          go_wp2_with (go_at_call 46; refine HWd.out.mono ?_; rintro e w6 ⟨rfl, hF6⟩; have hWR6 : WR w6 g n (B % 2 ^ (64 * k)) := (by obtain ⟨cur, hc, hc2⟩ := HWR5.out; exact ⟨cur, hF6.blk hc (fun h => h), hc2⟩); have hfz := hWR6.frozen k; have hcl := hWR6.cell hlt; have HWR6 := Lib.hid hWR6; have HN6 := Lib.hid (HN5.out.trans hF6); have HBx6 := Lib.hid (hF6.blk HBx5.out (fun h => h)); clear hF6 hWR6)
          go_roundw
          case rel => exact ⟨k + 1, by omega, by go_num, Lib.hid (HWR6.out.put HM1.out (fun i hi => HM2.out i hi)), Lib.hid (HN6.out.setN (b := g) (by omega) k _), Lib.hid (blk_far (p := ⟨g, k, none⟩) HBx6.out (by show w.heap.size ≠ g; omega) _)⟩
          case measure => simp [intOf]; omega
    · have HE : Hid (B % 2 ^ (64 * k) = B) := Lib.hid (by rw [show k = n by omega]; exact Nat.mod_eq_of_lt hB)
      go_wp2
      go_ret
      exact ⟨g, ⟨_, rfl⟩, by omega, by rw [← HE.out]; exact HW.out, HN.out⟩

end Go.Proofs.YtacaeahijecfeaaDoor
