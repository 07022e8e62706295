/-
  strip's joined, Or, And.
-/
import Derived.Test.YtacaeahijecfeaaDoorStripJoin
namespace Go.Proofs.YtacaeahijecfeaaDoor
open Go.RowKit Go.Shelf Go.Proofs.YtacaeahijecfeaaDoorW.PrintWords Go.Proofs.YtacaeahijecfeaaDoorW.PrintMore
set_option linter.unusedVariables false
set_option linter.unusedSimpArgs false

theorem join_words (all : Bool) (n : Nat) (ps : List (Nat × Nat × Nat)) (k : Nat) (hk : k < n) : wordN (joinL all n (ps.map (·.2.2))) k = if all then allN (ps.map fun x => (wordN x.2.2 k : Int)) else anyN (ps.map fun x => (wordN x.2.2 k : Int)) := by
  unfold joinL
  cases all
  · simp only [Bool.false_eq_true, if_false, word_orL, List.map_map]; rfl
  · simp only [if_true, word_andL n _ k hk, List.map_map]; rfl

set_option maxRecDepth 100000 in
set_option maxHeartbeats 4000000 in
theorem joined_and (g c n : Nat) (ps : List (Nat × Nat × Nat)) (w : World) (h : PR w g n ps) (h0 : 0 < ps.length) (hl : ps.length ≤ 1000) (hn : n ≤ 4096) :
    Calls Tryd.prog 51 #[.slice (some ⟨g, 0, none⟩) ps.length c, .bool true] w fun e w' => ∃ p q, e = .returned (.tuple #[.pointer (some ⟨p, 0, none⟩), .int .i64 0]) ∧ w.heap.size ≤ p ∧ w.heap.size ≤ q ∧ St w' p q n (joinL true n (ps.map (·.2.2))) ∧ Nw w w' := by
  have HP := Lib.hid h
  have K1 := Lib.hid (fun W (hW : Nw w W) k (hk : k < n) => word_calls g c n k ps W (h.nw hW) hk hl)
  have K2 := Lib.hid (fun W A c k (hC : Kd.C (Kd.int .u64) W A (ps.map fun x => (wordN x.2.2 k : Int)).length (ps.map fun x => (wordN x.2.2 k : Int))) => all_calls A c (ps.map fun x => (wordN x.2.2 k : Int)) W hC (by rw [List.length_map]; omega) (by
    intro a ha
    obtain ⟨x, _, rfl⟩ := List.mem_map.1 ha
    have := wordN_lt x.2.2 k
    omega))
  have HJ := Lib.hid (join_words true n ps)
  have hlt := joinL_lt true (n := n) (l := ps.map (·.2.2)) (by
    intro B hB
    obtain ⟨x, hx, rfl⟩ := List.mem_map.1 hB
    obtain ⟨i, hi, rfl⟩ := List.getElem_of_mem hx
    exact (h i hi).2.lt)
  obtain ⟨J, hJ⟩ : ∃ J, J = joinL true n (ps.map (·.2.2)) := ⟨_, rfl⟩
  rw [← hJ] at HJ hlt ⊢
  have HLt := Lib.hid hlt
  have HB := Lib.hid (Below.refl w.heap.size w)
  have h0' : (0 : Int) < ps.length := by omega
  have h0'' : ((ps.length : Int) == 0) = false := by rw [beq_eq_false_iff_ne]; omega
  clear h hJ hlt
  go_enter Tryd.func51, Tryd.ntmps51
  go_wp2
  go_loopw [7, 15] (fun _ ii wr => ∃ j : Nat, j ≤ ps.length ∧ ii = .int .i64 j ∧ Hid (Nw w wr)) (fun _ ii _ => ps.length - (intOf ii).toNat)
  case atStart => exact ⟨0, Nat.zero_le _, rfl, Lib.hid (Fr.refl _ _)⟩
  case round =>
    obtain ⟨j, hj, rfl, HN⟩ := hrel
    obtain ⟨z1, hz⟩ := (HP.out.nw HN.out) 0 h0
    obtain ⟨zc, hzh⟩ := hz.head
    have z2 : wr.cell? ⟨ps[0].1, 0, none⟩ = some (.slice (some ⟨ps[0].2.1, 0, none⟩) n zc) := blk_cell hzh 0
    obtain ⟨zp, hzp⟩ : ∃ p, p = ps[0].1 := ⟨_, rfl⟩
    obtain ⟨zq, hzq⟩ : ∃ p, p = ps[0].2.1 := ⟨_, rfl⟩
    rw [← hzp] at z1 z2
    rw [← hzq] at z2
    clear hz hzh hzp hzq
    by_cases hlt : j < ps.length
    · obtain ⟨c1, hS⟩ := (HP.out.nw HN.out) j hlt
      obtain ⟨cc, hhd⟩ := hS.head
      have c2 : wr.cell? ⟨ps[j].1, 0, none⟩ = some (.slice (some ⟨ps[j].2.1, 0, none⟩) n cc) := blk_cell hhd 0
      obtain ⟨p, hp⟩ : ∃ p, p = ps[j].1 := ⟨_, rfl⟩
      obtain ⟨q, hq⟩ : ∃ p, p = ps[j].2.1 := ⟨_, rfl⟩
      rw [← hp] at c1 c2
      rw [← hq] at c2
      clear hS hhd hp hq
      go_wp2
      go_quiet (fail)
      go_wp2
      go_roundw
      case rel => exact ⟨j + 1, by omega, by go_num, Lib.hid (HN.out.drewN _)⟩
      case measure => simp [intOf]; omega
    · have HB1 := Lib.hid (HN.out.below (fun _ _ h => h))
      have HS1 := Lib.hid HN.out.size
      go_wp2_with (refine Kd.R_make (Kd.int .u64) (w0 := w) w.heap.size 48 rfl rfl 36 (.tmp 49) (.tmp 49) rfl n rfl rfl Tryd.underlying36 (.int .u64 0) 8 (by kernel_rfl) rfl (by decide) (by decide) (0 : Int) (ok := fun _ => True) (okp := fun _ => False) rfl (fun _ h => h.elim) trivial (by omega) (by simp; omega) HB1.out HS1.out ?_; intro v1 w1 ho hb hg hat; obtain ⟨A, c1, rfl, hc, hC⟩ := Kd.R_reads ho; simp only [List.length_replicate, Int.toNat_natCast] at ho hat; have HO1 := Lib.hid ho; have HB2 := Lib.hid hb; have HAt := Lib.hid hat; clear ho hb hg hat hC)
      obtain ⟨_, hrow⟩ := Kd.own_of_R HO1.out
      rcases hrow with ⟨hnil, _⟩ | ⟨q1, cap, cur, hv, hq1, hblk, g1, g2, g3, g4⟩
      · obtain ⟨b, hb1, _⟩ := HAt.out
        rw [hnil] at hb1; simp [Value.ownBlock] at hb1
      injection hv with hA hLn hcap
      clear hLn
      subst hA
      subst hcap
      have hcs : n ≤ cur.size := by simp at g1 g3; omega
      have hqlt := blk_lt hblk
      have hb2 := HB2.out.size
      have hN2 : Nw w (w1.alloc (.cells #[.slice (some ⟨q1, 0, none⟩) n c1] 71)) := (Fr.of_below HB2.out).alloc _
      have HNew : Hid (∃ cur : Array Value, (w1.alloc (.cells #[.slice (some ⟨q1, 0, none⟩) n c1] 71)).heap[q1]? = some (.cells cur 48 (0, 0)) ∧ n ≤ cur.size ∧ ∀ j, j < 0 → cur[j]? = some (.int .u64 (wordN J j))) :=
        Lib.hid ⟨cur, blk_alloc hblk _, hcs, fun j hj => absurd hj (Nat.not_lt_zero j)⟩
      have HHead : Hid ((w1.alloc (.cells #[.slice (some ⟨q1, 0, none⟩) n c1] 71)).heap[w1.heap.size]? = some (.cells #[.slice (some ⟨q1, 0, none⟩) n c1] 71 (0, 0))) := Lib.hid (blk_new _ _)
      obtain ⟨p1, hp1⟩ : ∃ p, p = w1.heap.size := ⟨_, rfl⟩
      obtain ⟨W2, hW2⟩ : ∃ W, W = w1.alloc (.cells #[.slice (some ⟨q1, 0, none⟩) n c1] 71) := ⟨_, rfl⟩
      rw [← hp1] at HHead
      rw [← hp1, ← hW2]
      rw [← hW2] at HNew HHead hN2
      have hpq : p1 ≠ q1 := by omega
      have hpw : w.heap.size ≤ p1 := by omega
      have HN2 := Lib.hid hN2
      clear hW2 hN2 hblk g1 g2 g3 g4 hcs HO1 HAt HB2 hqlt hb2 hp1 HB1 HS1 HN z1 z2 hc hlt hj HB h0'' h0'
      go_loopw [9, 58] (fun _ ii wr => ∃ k : Nat, k ≤ n ∧ ii = .int .i64 k ∧ Hid (∃ cur : Array Value, wr.heap[q1]? = some (.cells cur 48 (0, 0)) ∧ n ≤ cur.size ∧ ∀ j, j < k → cur[j]? = some (.int .u64 (wordN J j))) ∧ Hid (wr.heap[p1]? = some (.cells #[.slice (some ⟨q1, 0, none⟩) n c1] 71 (0, 0))) ∧ Hid (Nw w wr)) (fun _ ii _ => n - (intOf ii).toNat)
      case atStart => exact ⟨0, Nat.zero_le _, rfl, HNew, HHead, HN2⟩
      case round =>
        obtain ⟨k, hk, rfl, HC, HH, HN⟩ := hrel
        by_cases hlt2 : k < n
        · have z2 : wr.cell? ⟨p1, 0, none⟩ = some (.slice (some ⟨q1, 0, none⟩) n c1) := blk_cell HH.out 0
          have HN3 := Lib.hid HN.out.drew
          have hlt3 : (k : Int) < n := by omega
          have K1k := Lib.hid (fun W (hW : Nw w W) => K1.out W hW k hlt2)
          have K2k := Lib.hid (fun W A c hC => K2.out W A c k hC)
          have hJk := HJ.out k hlt2
          simp only [if_true, Bool.false_eq_true, if_false] at hJk
          obtain ⟨ms, hms⟩ : ∃ ms, ms = ps.map fun x => (wordN x.2.2 k : Int) := ⟨_, rfl⟩
          rw [← hms] at hJk K1k K2k
          rw [← hJk] at K2k
          obtain ⟨x, hx⟩ : ∃ x, x = wordN J k := ⟨_, rfl⟩
          rw [← hx] at K2k
          have HX := Lib.hid hx
          clear hms hJk hx
          go_wp2
          go_region_held3 (fun w' => w'.cell? ⟨p1, 0, none⟩ = some (.slice (some ⟨q1, 0, none⟩) n c1) ∧ Nw w w')
            (first
              | exact ⟨z2, HN3.out⟩
              | (go_split_ands; exact ⟨hF.cell (by assumption) (fun h => h), Fr.trans (by assumption) hF⟩)
              | (go_split_ands; exact ⟨by assumption, by assumption⟩)
              | (exact ⟨blk_cell (blk_far (p := ⟨q1, k, none⟩) HP3.out hpq _) 0, Fr.setN (by go_split_ands; assumption) hq1 _ _⟩))
            (first
              | (go_at_call 65; refine (K1k.out _ (by go_split_ands; assumption)).mono ?_; rintro e wv ⟨v, rfl, ho, hb⟩; obtain ⟨A1, cc, rfl, _, hC⟩ := Kd.R_reads ho; have hF := Fr.of_below (S := fun _ => False) hb; have HC1 := Lib.hid hC; have HP3 := Lib.hid (hF.blk (blk_drew HH.out) (fun h => h)); obtain ⟨cur2, d1, d2, d3⟩ := HC.out; have hb3 := hF.blk (blk_drew d1) (fun h => h); obtain ⟨y, hy⟩ : ∃ y, cur2[k]? = some y := ⟨_, Array.getElem?_eq_getElem (show k < cur2.size by omega)⟩; have d4 := (blk_cell hb3 k).trans hy; have d5 := blk_frozen hb3 k; have HNv := Lib.hid (HN3.out.trans hF); have HB3 := Lib.hid hb3; have HD2 := Lib.hid d2; have HD3 := Lib.hid d3; clear ho hb hC hb3 d1 d2 d3 hy)
              | (go_at_call 64; refine (K2k.out _ A1 cc HC1.out).mono ?_; rintro e wx ⟨rfl, rfl⟩))
          go_wp2
          go_roundw
          case rel => exact ⟨k + 1, by omega, by go_num, Lib.hid ⟨_, blk_set HB3.out k _, by simpa using HD2.out, fun j hj => by
            rcases Nat.lt_or_ge j k with h | h
            · rw [Array.getElem?_setIfInBounds_ne (by omega)]; exact HD3.out j h
            · have := HD2.out
              rw [show j = k by omega, Array.getElem?_setIfInBounds_self_of_lt (by omega), HX.out]⟩, Lib.hid (blk_far (p := ⟨q1, k, none⟩) HP3.out hpq _), Lib.hid (Fr.setN HNv.out hq1 k _)⟩
          case measure => simp [intOf]; omega
        · have HF : Hid (∃ cur : Array Value, wr.heap[q1]? = some (.cells cur 48 (0, 0)) ∧ n ≤ cur.size ∧ cur.toList.take n = (wordsI n J).map (Value.int .u64)) := by
            obtain ⟨cur, d1, d2, d3⟩ := HC.out
            refine Lib.hid ⟨cur, d1, d2, ?_⟩
            apply List.ext_getElem?
            intro j
            rcases Nat.lt_or_ge j n with h | h
            · rw [List.getElem?_take, if_pos h, Array.getElem?_toList, d3 j (by omega), List.getElem?_map, List.getElem?_eq_getElem (l := wordsI n J) (by rw [wordsI_len]; exact h), wordsI_get]; rfl
            · rw [List.getElem?_eq_none (by simp; omega), List.getElem?_eq_none (by simp [wordsI_len]; omega)]
          clear HC
          go_wp2
          go_returns
          exact ⟨p1, q1, rfl, hpw, hq1, ⟨hpq, hn, HLt.out, ⟨c1, HH.out⟩, HF.out⟩, HN.out⟩

set_option maxRecDepth 100000 in
set_option maxHeartbeats 4000000 in
theorem joined_or (g c n : Nat) (ps : List (Nat × Nat × Nat)) (w : World) (h : PR w g n ps) (h0 : 0 < ps.length) (hl : ps.length ≤ 1000) (hn : n ≤ 4096) :
    Calls Tryd.prog 51 #[.slice (some ⟨g, 0, none⟩) ps.length c, .bool false] w fun e w' => ∃ p q, e = .returned (.tuple #[.pointer (some ⟨p, 0, none⟩), .int .i64 0]) ∧ w.heap.size ≤ p ∧ w.heap.size ≤ q ∧ St w' p q n (joinL false n (ps.map (·.2.2))) ∧ Nw w w' := by
  have HP := Lib.hid h
  have K1 := Lib.hid (fun W (hW : Nw w W) k (hk : k < n) => word_calls g c n k ps W (h.nw hW) hk hl)
  have K2 := Lib.hid (fun W A c k (hC : Kd.C (Kd.int .u64) W A (ps.map fun x => (wordN x.2.2 k : Int)).length (ps.map fun x => (wordN x.2.2 k : Int))) => any_calls A c (ps.map fun x => (wordN x.2.2 k : Int)) W hC (by rw [List.length_map]; omega) (by
    intro a ha
    obtain ⟨x, _, rfl⟩ := List.mem_map.1 ha
    have := wordN_lt x.2.2 k
    omega))
  have HJ := Lib.hid (join_words false n ps)
  have hlt := joinL_lt false (n := n) (l := ps.map (·.2.2)) (by
    intro B hB
    obtain ⟨x, hx, rfl⟩ := List.mem_map.1 hB
    obtain ⟨i, hi, rfl⟩ := List.getElem_of_mem hx
    exact (h i hi).2.lt)
  obtain ⟨J, hJ⟩ : ∃ J, J = joinL false n (ps.map (·.2.2)) := ⟨_, rfl⟩
  rw [← hJ] at HJ hlt ⊢
  have HLt := Lib.hid hlt
  have HB := Lib.hid (Below.refl w.heap.size w)
  have h0' : (0 : Int) < ps.length := by omega
  have h0'' : ((ps.length : Int) == 0) = false := by rw [beq_eq_false_iff_ne]; omega
  clear h hJ hlt
  go_enter Tryd.func51, Tryd.ntmps51
  go_wp2
  go_loopw [7, 15] (fun _ ii wr => ∃ j : Nat, j ≤ ps.length ∧ ii = .int .i64 j ∧ Hid (Nw w wr)) (fun _ ii _ => ps.length - (intOf ii).toNat)
  case atStart => exact ⟨0, Nat.zero_le _, rfl, Lib.hid (Fr.refl _ _)⟩
  case round =>
    obtain ⟨j, hj, rfl, HN⟩ := hrel
    obtain ⟨z1, hz⟩ := (HP.out.nw HN.out) 0 h0
    obtain ⟨zc, hzh⟩ := hz.head
    have z2 : wr.cell? ⟨ps[0].1, 0, none⟩ = some (.slice (some ⟨ps[0].2.1, 0, none⟩) n zc) := blk_cell hzh 0
    obtain ⟨zp, hzp⟩ : ∃ p, p = ps[0].1 := ⟨_, rfl⟩
    obtain ⟨zq, hzq⟩ : ∃ p, p = ps[0].2.1 := ⟨_, rfl⟩
    rw [← hzp] at z1 z2
    rw [← hzq] at z2
    clear hz hzh hzp hzq
    by_cases hlt : j < ps.length
    · obtain ⟨c1, hS⟩ := (HP.out.nw HN.out) j hlt
      obtain ⟨cc, hhd⟩ := hS.head
      have c2 : wr.cell? ⟨ps[j].1, 0, none⟩ = some (.slice (some ⟨ps[j].2.1, 0, none⟩) n cc) := blk_cell hhd 0
      obtain ⟨p, hp⟩ : ∃ p, p = ps[j].1 := ⟨_, rfl⟩
      obtain ⟨q, hq⟩ : ∃ p, p = ps[j].2.1 := ⟨_, rfl⟩
      rw [← hp] at c1 c2
      rw [← hq] at c2
      clear hS hhd hp hq
      go_wp2
      go_quiet (fail)
      go_wp2
      go_roundw
      case rel => exact ⟨j + 1, by omega, by go_num, Lib.hid (HN.out.drewN _)⟩
      case measure => simp [intOf]; omega
    · have HB1 := Lib.hid (HN.out.below (fun _ _ h => h))
      have HS1 := Lib.hid HN.out.size
      go_wp2_with (refine Kd.R_make (Kd.int .u64) (w0 := w) w.heap.size 48 rfl rfl 36 (.tmp 49) (.tmp 49) rfl n rfl rfl Tryd.underlying36 (.int .u64 0) 8 (by kernel_rfl) rfl (by decide) (by decide) (0 : Int) (ok := fun _ => True) (okp := fun _ => False) rfl (fun _ h => h.elim) trivial (by omega) (by simp; omega) HB1.out HS1.out ?_; intro v1 w1 ho hb hg hat; obtain ⟨A, c1, rfl, hc, hC⟩ := Kd.R_reads ho; simp only [List.length_replicate, Int.toNat_natCast] at ho hat; have HO1 := Lib.hid ho; have HB2 := Lib.hid hb; have HAt := Lib.hid hat; clear ho hb hg hat hC)
      obtain ⟨_, hrow⟩ := Kd.own_of_R HO1.out
      rcases hrow with ⟨hnil, _⟩ | ⟨q1, cap, cur, hv, hq1, hblk, g1, g2, g3, g4⟩
      · obtain ⟨b, hb1, _⟩ := HAt.out
        rw [hnil] at hb1; simp [Value.ownBlock] at hb1
      injection hv with hA hLn hcap
      clear hLn
      subst hA
      subst hcap
      have hcs : n ≤ cur.size := by simp at g1 g3; omega
      have hqlt := blk_lt hblk
      have hb2 := HB2.out.size
      have hN2 : Nw w (w1.alloc (.cells #[.slice (some ⟨q1, 0, none⟩) n c1] 71)) := (Fr.of_below HB2.out).alloc _
      have HNew : Hid (∃ cur : Array Value, (w1.alloc (.cells #[.slice (some ⟨q1, 0, none⟩) n c1] 71)).heap[q1]? = some (.cells cur 48 (0, 0)) ∧ n ≤ cur.size ∧ ∀ j, j < 0 → cur[j]? = some (.int .u64 (wordN J j))) :=
        Lib.hid ⟨cur, blk_alloc hblk _, hcs, fun j hj => absurd hj (Nat.not_lt_zero j)⟩
      have HHead : Hid ((w1.alloc (.cells #[.slice (some ⟨q1, 0, none⟩) n c1] 71)).heap[w1.heap.size]? = some (.cells #[.slice (some ⟨q1, 0, none⟩) n c1] 71 (0, 0))) := Lib.hid (blk_new _ _)
      obtain ⟨p1, hp1⟩ : ∃ p, p = w1.heap.size := ⟨_, rfl⟩
      obtain ⟨W2, hW2⟩ : ∃ W, W = w1.alloc (.cells #[.slice (some ⟨q1, 0, none⟩) n c1] 71) := ⟨_, rfl⟩
      rw [← hp1] at HHead
      rw [← hp1, ← hW2]
      rw [← hW2] at HNew HHead hN2
      have hpq : p1 ≠ q1 := by omega
      have hpw : w.heap.size ≤ p1 := by omega
      have HN2 := Lib.hid hN2
      clear hW2 hN2 hblk g1 g2 g3 g4 hcs HO1 HAt HB2 hqlt hb2 hp1 HB1 HS1 HN z1 z2 hc hlt hj HB h0'' h0'
      go_loopw [9, 58] (fun _ ii wr => ∃ k : Nat, k ≤ n ∧ ii = .int .i64 k ∧ Hid (∃ cur : Array Value, wr.heap[q1]? = some (.cells cur 48 (0, 0)) ∧ n ≤ cur.size ∧ ∀ j, j < k → cur[j]? = some (.int .u64 (wordN J j))) ∧ Hid (wr.heap[p1]? = some (.cells #[.slice (some ⟨q1, 0, none⟩) n c1] 71 (0, 0))) ∧ Hid (Nw w wr)) (fun _ ii _ => n - (intOf ii).toNat)
      case atStart => exact ⟨0, Nat.zero_le _, rfl, HNew, HHead, HN2⟩
      case round =>
        obtain ⟨k, hk, rfl, HC, HH, HN⟩ := hrel
        by_cases hlt2 : k < n
        · have z2 : wr.cell? ⟨p1, 0, none⟩ = some (.slice (some ⟨q1, 0, none⟩) n c1) := blk_cell HH.out 0
          have HN3 := Lib.hid HN.out.drew
          have hlt3 : (k : Int) < n := by omega
          have K1k := Lib.hid (fun W (hW : Nw w W) => K1.out W hW k hlt2)
          have K2k := Lib.hid (fun W A c hC => K2.out W A c k hC)
          have hJk := HJ.out k hlt2
          simp only [if_true, Bool.false_eq_true, if_false] at hJk
          obtain ⟨ms, hms⟩ : ∃ ms, ms = ps.map fun x => (wordN x.2.2 k : Int) := ⟨_, rfl⟩
          rw [← hms] at hJk K1k K2k
          rw [← hJk] at K2k
          obtain ⟨x, hx⟩ : ∃ x, x = wordN J k := ⟨_, rfl⟩
          rw [← hx] at K2k
          have HX := Lib.hid hx
          clear hms hJk hx
          go_wp2
          go_region_held3 (fun w' => w'.cell? ⟨p1, 0, none⟩ = some (.slice (some ⟨q1, 0, none⟩) n c1) ∧ Nw w w')
            (first
              | exact ⟨z2, HN3.out⟩
              | (go_split_ands; exact ⟨hF.cell (by assumption) (fun h => h), Fr.trans (by assumption) hF⟩)
              | (go_split_ands; exact ⟨by assumption, by assumption⟩)
              | (exact ⟨blk_cell (blk_far (p := ⟨q1, k, none⟩) HP3.out hpq _) 0, Fr.setN (by go_split_ands; assumption) hq1 _ _⟩))
            (first
              | (go_at_call 65; refine (K1k.out _ (by go_split_ands; assumption)).mono ?_; rintro e wv ⟨v, rfl, ho, hb⟩; obtain ⟨A1, cc, rfl, _, hC⟩ := Kd.R_reads ho; have hF := Fr.of_below (S := fun _ => False) hb; have HC1 := Lib.hid hC; have HP3 := Lib.hid (hF.blk (blk_drew HH.out) (fun h => h)); obtain ⟨cur2, d1, d2, d3⟩ := HC.out; have hb3 := hF.blk (blk_drew d1) (fun h => h); obtain ⟨y, hy⟩ : ∃ y, cur2[k]? = some y := ⟨_, Array.getElem?_eq_getElem (show k < cur2.size by omega)⟩; have d4 := (blk_cell hb3 k).trans hy; have d5 := blk_frozen hb3 k; have HNv := Lib.hid (HN3.out.trans hF); have HB3 := Lib.hid hb3; have HD2 := Lib.hid d2; have HD3 := Lib.hid d3; clear ho hb hC hb3 d1 d2 d3 hy)
              | (go_at_call 66; refine (K2k.out _ A1 cc HC1.out).mono ?_; rintro e wx ⟨rfl, rfl⟩))
          go_wp2
          go_roundw
          case rel => exact ⟨k + 1, by omega, by go_num, Lib.hid ⟨_, blk_set HB3.out k _, by simpa using HD2.out, fun j hj => by
            rcases Nat.lt_or_ge j k with h | h
            · rw [Array.getElem?_setIfInBounds_ne (by omega)]; exact HD3.out j h
            · have := HD2.out
              rw [show j = k by omega, Array.getElem?_setIfInBounds_self_of_lt (by omega), HX.out]⟩, Lib.hid (blk_far (p := ⟨q1, k, none⟩) HP3.out hpq _), Lib.hid (Fr.setN HNv.out hq1 k _)⟩
          case measure => simp [intOf]; omega
        · have HF : Hid (∃ cur : Array Value, wr.heap[q1]? = some (.cells cur 48 (0, 0)) ∧ n ≤ cur.size ∧ cur.toList.take n = (wordsI n J).map (Value.int .u64)) := by
            obtain ⟨cur, d1, d2, d3⟩ := HC.out
            refine Lib.hid ⟨cur, d1, d2, ?_⟩
            apply List.ext_getElem?
            intro j
            rcases Nat.lt_or_ge j n with h | h
            · rw [List.getElem?_take, if_pos h, Array.getElem?_toList, d3 j (by omega), List.getElem?_map, List.getElem?_eq_getElem (l := wordsI n J) (by rw [wordsI_len]; exact h), wordsI_get]; rfl
            · rw [List.getElem?_eq_none (by simp; omega), List.getElem?_eq_none (by simp [wordsI_len]; omega)]
          clear HC
          go_wp2
          go_returns
          exact ⟨p1, q1, rfl, hpw, hq1, ⟨hpq, hn, HLt.out, ⟨c1, HH.out⟩, HF.out⟩, HN.out⟩

end Go.Proofs.YtacaeahijecfeaaDoor
