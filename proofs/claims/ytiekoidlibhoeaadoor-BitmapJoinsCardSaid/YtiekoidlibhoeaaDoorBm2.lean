/-
  The contracts of the package bitmap: Runs, words, Copy, Of.
-/
import Derived.Test.YtiekoidlibhoeaaDoorBm
import Derived.Test.YtiekoidlibhoeaaDoorBmSet3
namespace Go.Proofs.YtiekoidlibhoeaaDoor
open Go.RowKit Go.Shelf Go.Proofs.YtiekoidlibhoeaaDoorW.PrintWords Go.Proofs.YtiekoidlibhoeaaDoorW.PrintMore
set_option linter.unusedVariables false
set_option linter.unusedSimpArgs false

/-- Block g holds 1024 words: word k is f k. -/
def WF (W : World) (g : Nat) (f : Nat → Nat) : Prop := ∃ cur : Array Value, W.heap[g]? = some (.cells cur 66 (0, 0)) ∧ 1024 ≤ cur.size ∧ ∀ k, k < 1024 → cur[k]? = some (.int .u64 (f k : Nat))
theorem WF.keep {W W1 : World} {g : Nat} {f : Nat → Nat} (h : WF W g f) (hk : ∀ cs, W.heap[g]? = some (.cells cs 66 (0, 0)) → W1.heap[g]? = some (.cells cs 66 (0, 0))) : WF W1 g f := by
  obtain ⟨cur, h1, h2⟩ := h
  exact ⟨cur, hk _ h1, h2⟩
theorem WF.nw {W W1 : World} {g : Nat} {f : Nat → Nat} (h : WF W g f) (hf : Nw W W1) : WF W1 g f := h.keep (fun _ hb => hf.blk hb (fun h => h))
theorem WF.cell {W : World} {g : Nat} {f : Nat → Nat} (h : WF W g f) {k : Nat} (hk : k < 1024) : W.cell? ⟨g, k, none⟩ = some (.int .u64 (f k : Nat)) := by
  obtain ⟨cur, h1, _, h2⟩ := h
  rw [blk_cell h1]; exact h2 k hk
theorem WF.frozen {W : World} {g : Nat} {f : Nat → Nat} (h : WF W g f) (k : Nat) : W.frozen? ⟨g, k, none⟩ = false := by
  obtain ⟨cur, h1, _⟩ := h
  exact blk_frozen h1 k
theorem WF.glt {W : World} {g : Nat} {f : Nat → Nat} (h : WF W g f) : g < W.heap.size := by obtain ⟨cur, h1, _⟩ := h; exact blk_lt h1
theorem WF.put {W : World} {g k : Nat} {f f' : Nat → Nat} {u : Int} (h : WF W g f) (hu : u = (f' k : Nat)) (ho : ∀ j, j ≠ k → f' j = f j) : WF (W.setCell ⟨g, k, none⟩ (.int .u64 u)) g f' := by
  obtain ⟨cur, h1, h0, h2⟩ := h
  subst hu
  refine ⟨_, blk_set h1 k _, by simpa using h0, fun j hj => ?_⟩
  have h3 := h2 j hj
  rw [Array.getElem?_setIfInBounds]
  have hl : j < cur.size := (Array.getElem?_eq_some_iff.1 h3).1
  by_cases e : k = j
  · subst e; rw [if_pos rfl, if_pos hl]
  · rw [if_neg e, h3, ho j (fun e' => e e'.symm)]
theorem WF.same {W : World} {g : Nat} {f f' : Nat → Nat} (h : WF W g f) (hf : ∀ k, k < 1024 → f' k = f k) : WF W g f' := by
  obtain ⟨cur, h1, h0, h2⟩ := h
  exact ⟨cur, h1, h0, fun k hk => by rw [h2 k hk, hf k hk]⟩
theorem WF.reads {W : World} {g n B : Nat} (hn : n = 1024) (h : WF W g (wordN B)) : Kd.C (Kd.int .u64) W (some ⟨g, 0, none⟩) n (wordsI n B) :=
  Kd.C_of_reads (d := (0 : Int)) (h1 := fun _ => rfl) ⟨wordsI_len n B, by omega, fun _ => ⟨_, rfl, fun j hj => by
    have := h.cell (k := j) (by omega)
    rw [Addr.add_lit, Nat.zero_add, this]
    congr 2
    rw [List.getD_eq_getElem?_getD, List.getElem?_eq_getElem (by rw [wordsI_len]; exact hj), wordsI_get]; rfl⟩⟩
theorem take_at {cur : Array Value} {n k : Nat} {l : List Value} {v : Value} (h : cur.toList.take n = l) (hk : k < n) (hl : l[k]? = some v) : cur[k]? = some v := by
  rw [← h, List.getElem?_take, if_pos hk] at hl
  simpa using hl
theorem WF.of_take {W : World} {g n B : Nat} {cur : Array Value} (hn : n = 1024) (h1 : W.heap[g]? = some (.cells cur 66 (0, 0))) (h2 : n ≤ cur.size) (h3 : cur.toList.take n = (wordsI n B).map (Value.int .u64)) : WF W g (wordN B) :=
  ⟨cur, h1, by omega, fun k hk => take_at h3 (by omega) (by
    rw [List.getElem?_map, List.getElem?_eq_getElem (by rw [wordsI_len]; omega), wordsI_get]; rfl)⟩

theorem make_words {W : World} {n base : Nat} {v : Value} (h : Kd.R (Kd.int .u64) 66 W base (fun _ => True) v (List.replicate n (0 : Int))) (ha : ∃ b, v.ownBlock = some b ∧ base ≤ b) :
    ∃ g c cur, v = .slice (some ⟨g, 0, none⟩) n c ∧ base ≤ g ∧ W.heap[g]? = some (.cells cur 66 (0, 0)) ∧ n ≤ cur.size ∧ ∀ j : Nat, j < n → cur[j]? = some (.int .u64 0) := by
  obtain ⟨hl, hrow⟩ := Kd.own_of_R h
  rcases hrow with ⟨hnil, _⟩ | ⟨g, cap, cur, hv, hg, hblk, h1, h2, h3, h4⟩
  · obtain ⟨b, hb1, _⟩ := ha
    rw [hnil] at hb1; simp [Value.ownBlock] at hb1
  · rw [List.length_replicate] at hv
    refine ⟨g, cap, cur, hv, hg, hblk, by simp at h1 h3; omega, fun j hj => ?_⟩
    have h5 : (encs (Value.int .u64) (List.replicate n (0 : Int)))[j]? = some (.int .u64 0) := by simp [encs, hj]
    have h6 : (cur.toList.take (n * 1))[j]? = some (.int .u64 0) := by
      rw [← h5]; congr 1; simpa [encs] using h4
    rw [List.getElem?_take, if_pos (by omega)] at h6
    simpa using h6

/-- A bitmap, or none. -/
def BP (W : World) (P : Option Addr) (p q B : Nat) : Prop := (∃ b, P = some ⟨b, 0, none⟩ ∧ BM W b p q B) ∨ (P = none ∧ B = 0)
theorem BP.nw {W W1 : World} {P : Option Addr} {p q B : Nat} (h : BP W P p q B) (hf : Nw W W1) : BP W1 P p q B := by
  rcases h with ⟨b, h1, h2⟩ | h
  · exact .inl ⟨b, h1, h2.nw hf⟩
  · exact .inr h

set_option maxRecDepth 100000 in
set_option maxHeartbeats 1000000 in
theorem bm_words (P : Option Addr) (p q B : Nat) (w : World) (h : BP w P p q B) :
    Calls Tryd.prog 43 #[.pointer P] w fun e w' => ∃ g c, e = .returned (.slice (some ⟨g, 0, none⟩) 1024 c) ∧ w.heap.size ≤ g ∧ WF w' g (wordN B) ∧ Nw w w' := by
  rcases h with ⟨b, rfl, h⟩ | ⟨rfl, rfl⟩
  · have hc0 := h.c0
    have HX := Lib.hid (swords_calls p q 1024 B w h.st)
    clear h
    go_enter Tryd.func43, Tryd.ntmps43
    go_wp2_with (go_at_call 66; refine HX.out.mono ?_; rintro e w1 ⟨g, c, cur, rfl, hg, h1, h2, h3, hN⟩; have H1 := Lib.hid h1; have H2 := Lib.hid h2; have H3 := Lib.hid h3; have HN := Lib.hid hN; clear h1 h2 h3 hN)
    go_ret
    exact ⟨g, c, rfl, hg, WF.of_take rfl H1.out H2.out H3.out, HN.out⟩
  · have HB := Lib.hid (Below.refl w.heap.size w)
    go_enter Tryd.func43, Tryd.ntmps43
    go_wp2_with (refine Kd.R_make (Kd.int .u64) (w0 := w) w.heap.size 66 rfl rfl 67 (.const (.int .i64 1024)) (.const (.int .i64 1024)) rfl 1024 rfl rfl Tryd.underlying67 (.int .u64 0) 8 (by kernel_rfl) rfl (by decide) (by decide) (0 : Int) (ok := fun _ => True) (okp := fun _ => False) rfl (fun _ h => h.elim) trivial (by omega) (by omega) HB.out (Nat.le_refl _) ?_; intro v1 w1 ho hb hg hat; obtain ⟨g, c, cur, rfl, hg1, hblk, hsz, hz⟩ := make_words ho hat; have HBk := Lib.hid hblk; have HZ := Lib.hid hz; have HSz := Lib.hid hsz; have HNb := Lib.hid hb; clear ho hb hg hat hblk hz hsz)
    go_ret
    exact ⟨g, c, rfl, hg1, ⟨cur, HBk.out, HSz.out, fun j hj => by rw [HZ.out j hj]; simp [wordN]⟩, Fr.of_below HNb.out⟩

set_option maxRecDepth 100000 in
set_option maxHeartbeats 1000000 in
theorem bm_copy (P : Option Addr) (p q B : Nat) (w : World) (hB : B < 2 ^ (64 * 1024)) (h : BP w P p q B) :
    Calls Tryd.prog 31 #[.pointer P] w fun e w' => ∃ b p' q', e = .returned (.pointer (some ⟨b, 0, none⟩)) ∧ (w.heap.size ≤ b ∧ w.heap.size ≤ p' ∧ w.heap.size ≤ q') ∧ BM w' b p' q' B ∧ Nw w w' := by
  have HW := Lib.hid (bm_words P p q B w h)
  have HB := Lib.hid hB
  clear h hB
  go_enter Tryd.func31, Tryd.ntmps31
  go_wp2_with (first
    | (go_at_call 43; refine HW.out.mono ?_; rintro e w1 ⟨g, c, rfl, hg, hF, hN⟩; have HF := Lib.hid hF; have HN := Lib.hid hN; clear hF hN)
    | (go_at_call 53; refine (bm_of (some ⟨g, 0, none⟩) c B _ HB.out (HF.out.reads rfl)).mono ?_; rintro e w2 ⟨b, p', q', rfl, hb, hM, hN⟩; have HM := Lib.hid hM; have HN2 := Lib.hid hN; have HBb := Lib.hid hb; clear hM hN hb))
  go_ret
  have hb := HBb.out
  have hs := HN.out.size
  exact ⟨b, p', q', rfl, ⟨by omega, by omega, by omega⟩, HM.out, HN.out.trans HN2.out⟩

set_option maxRecDepth 100000 in
set_option maxHeartbeats 2000000 in
theorem bm_runs (P : Option Addr) (p q B : Nat) (w : World) (h : BP w P p q B) :
    Calls Tryd.prog 17 #[.pointer P] w fun e w' => e = .returned (.int .i64 (segN (runsN B) 0 65536 : Nat)) ∧ Nw w w' := by
  have HW := Lib.hid (bm_words P p q B w h)
  clear h
  go_enter Tryd.func17, Tryd.ntmps17
  go_wp2_with (go_at_call 43; refine HW.out.mono ?_; rintro e w1 ⟨g, c, rfl, hg, hF, hN⟩; have HF := Lib.hid hF; have HN := Lib.hid hN; clear hF hN)
  go_loopw [3, 4, 10] (fun n la i wr => ∃ k m l : Nat, k ≤ 1024 ∧ i = .int .i64 k ∧ n = .int .i64 m ∧ la = .int .u64 l ∧ l < 2 ∧ m ≤ 64 * k ∧ Hid (l.testBit 0 = (decide (0 < k) && (wordN B (k - 1)).testBit 63)) ∧ Hid (m = segN (runsN B) 0 (64 * k)) ∧ Hid (Nw w1 wr)) (fun _ _ i _ => 1024 - (intOf i).toNat)
  case atStart => exact ⟨0, 0, 0, Nat.zero_le _, rfl, rfl, rfl, by omega, Nat.le_refl _, Lib.hid rfl, Lib.hid (by rw [seg_none _ _ _ (Nat.le_refl _)]), Lib.hid (Fr.refl _ _)⟩
  case round =>
    obtain ⟨k, m, l, hk, rfl, rfl, rfl, hl2, hm, HL, HM, HN2⟩ := hrel
    by_cases hlt : k < 1024
    · have hi : (k : Int) < 1024 := by omega
      have hc := (HF.out.nw HN2.out).cell hlt
      have hwl := wordN_lt B k
      have HU := Lib.hid (runs_u B k l hl2 HL.out)
      have HSg := Lib.hid (seg_add (runsN B) 0 (64 * k) (64 * (k + 1)) (by omega) (by omega))
      have hsl := seg_le (runsN B) (64 * k) (64 * (k + 1))
      obtain ⟨x, hx⟩ : ∃ x, x = wordN B k := ⟨_, rfl⟩
      rw [← hx] at hc hwl HU
      have HX := Lib.hid hx
      have e1 : IntKind.u64.wrap ((x : Int) * 2) = ((2 * x % 18446744073709551616 : Nat) : Int) := by rw [IntKind.wrap_u64]; omega
      have hm2 : 2 * x % 18446744073709551616 < 18446744073709551616 := Nat.mod_lt _ (by decide)
      have e2 := or_u64 (2 * x % 18446744073709551616) l hm2 (by omega)
      have e3 := andNot_u64 x (2 * x % 18446744073709551616 ||| l) hwl (or_lt _ _ hm2 (by omega))
      have HCt := Lib.hid (fun W => count_calls (x &&& notN (2 * x % 18446744073709551616 ||| l)) W (and_lt' _ _ hwl))
      rw [HU.out] at HCt
      obtain ⟨y, hy⟩ : ∃ y, y = 2 * x % 18446744073709551616 := ⟨_, rfl⟩
      rw [← hy] at e1 e2 e3 HCt
      obtain ⟨z, hz⟩ : ∃ z, z = y ||| l := ⟨_, rfl⟩
      rw [← hz] at e2 e3 HCt
      obtain ⟨u, hu⟩ : ∃ u, u = x &&& notN z := ⟨_, rfl⟩
      rw [← hu] at e3 HCt
      obtain ⟨d, hd⟩ : ∃ d, d = segN (runsN B) (64 * k) (64 * (k + 1)) := ⟨_, rfl⟩
      rw [← hd] at HCt HSg hsl
      have hd64 : d ≤ 64 := by omega
      clear hx hy hz hu hd HU hm2 hsl
      have HTp := Lib.hid (top_bit x hwl)
      have hk4 : m + d ≤ 65600 := by omega
      go_wp2_with (go_at_call 44; refine (HCt.out _).mono ?_; rintro e w5 ⟨rfl, rfl⟩)
      go_roundw
      case rel => exact ⟨k + 1, m + d, x / 9223372036854775808, by omega, by go_num, by go_num, by go_num, HTp.out.1, by omega, Lib.hid (by rw [HTp.out.2, HX.out, decide_eq_true (by omega : 0 < k + 1), Bool.true_and, show k + 1 - 1 = k by omega]), Lib.hid (by rw [HM.out]; exact HSg.out), HN2⟩
      case measure => simp [intOf]; omega
    · have hi : ¬ (k : Int) < 1024 := by omega
      have HK : Hid (k = 1024) := Lib.hid (by omega)
      clear hlt
      go_wp2
      go_ret
      have := HK.out
      subst this
      exact ⟨ret_int (by rw [HM.out]), HN.out.trans HN2.out⟩

set_option maxRecDepth 100000 in
set_option maxHeartbeats 2000000 in
theorem bm_of_list (A : Option Addr) (c : Nat) (l : List Int) (w : World) (hr : Kd.C (Kd.int .u16) w A l.length l) (hb : ∀ a, a ∈ l → 0 ≤ a ∧ a ≤ 65535) (hn : l.length ≤ 140737488351232) :
    Calls Tryd.prog 10 #[.slice A l.length c] w fun e w' => ∃ b p q, e = .returned (.pointer (some ⟨b, 0, none⟩)) ∧ (w.heap.size ≤ b ∧ w.heap.size ≤ p ∧ w.heap.size ≤ q) ∧ BM w' b p q (ofL l) ∧ Nw w w' := by
  have HR := Lib.hid hr
  have HB := Lib.hid hb
  clear hr hb
  go_enter Tryd.func10, Tryd.ntmps10
  go_wp2_with (go_at_call 39; refine (bm_new _).mono ?_; rintro e w1 ⟨b, p, q, rfl, hbq, hM, hN⟩; have HM := Lib.hid hM; have HN := Lib.hid hN; have HBQ := Lib.hid hbq; clear hM hN hbq)
  go_loopw [9] (fun i wr => ∃ k : Nat, k ≤ l.length ∧ i = .int .i64 k ∧ Hid (BM wr b p q (ofL (l.take k))) ∧ Hid (Nw w wr)) (fun i _ => l.length - (intOf i).toNat)
  case atStart => exact ⟨0, Nat.zero_le _, rfl, HM, HN⟩
  case round =>
    obtain ⟨k, hk, rfl, HM, HN⟩ := hrel
    by_cases hlt : k < l.length
    · obtain ⟨ad, hA, hcell⟩ := at_nat HR.out hlt
      cases hA
      have hcell := HN.out.cell hcell (fun h => h)
      have HL := Lib.hid (ofL_snoc l k hlt)
      have hx2 := HB.out l[k] (List.getElem_mem hlt)
      obtain ⟨x, hx⟩ : ∃ x, x = l[k] := ⟨_, rfl⟩
      rw [← hx] at hcell HL hx2
      clear hx
      obtain ⟨v, rfl⟩ : ∃ v : Nat, x = v := ⟨x.toNat, by omega⟩
      have hv : v < 65536 := by omega
      clear hx2
      go_wp2_with (go_at_call 32; refine (bm_add b p q _ v _ HM.out hv).mono ?_; rintro e w5 ⟨rfl, hM5, hF5⟩; have HM5 := Lib.hid hM5; have HF5 := Lib.hid hF5; clear hM5 hF5)
      go_roundw
      case rel => exact ⟨k + 1, by omega, by go_num, Lib.hid (by rw [HL.out, Int.toNat_natCast]; exact HM5.out), Lib.hid (HN.out.trans_of HF5.out (fun i hi h => by have := HBQ.out; rcases h with h | h <;> omega))⟩
      case measure => simp [intOf]; omega
    · have HT : Hid (l.take k = l) := Lib.hid (List.take_of_length_le (by omega))
      go_wp2
      go_ret
      exact ⟨b, p, q, rfl, HBQ.out, by rw [← HT.out]; exact HM.out, HN.out⟩

/-! ### joined -/
theorem or1_calls (x y : Nat) (w : World) (hx : x < 18446744073709551616) (hy : y < 18446744073709551616) : Calls Tryd.prog 57 #[.int .u64 x, .int .u64 y] w fun e w' => e = .returned (.int .u64 (joinN 0 x y : Nat)) ∧ w = w' := by
  have e1 := or_u64 x y hx hy
  go_enter Tryd.func57, Tryd.ntmps57
  go_wp2
  go_ret
  exact ⟨rfl, rfl⟩
theorem and1_calls (x y : Nat) (w : World) (hx : x < 18446744073709551616) (hy : y < 18446744073709551616) : Calls Tryd.prog 58 #[.int .u64 x, .int .u64 y] w fun e w' => e = .returned (.int .u64 (joinN 1 x y : Nat)) ∧ w = w' := by
  have e1 := and_u64 x y hx hy
  go_enter Tryd.func58, Tryd.ntmps58
  go_wp2
  go_ret
  exact ⟨rfl, rfl⟩
theorem less_not (x y : Nat) (hx : x < 18446744073709551616) (hy : y < 18446744073709551616) : x &&& notN y = joinN 2 x y := by
  apply Nat.eq_of_testBit_eq
  intro j
  rw [tb_join, Nat.testBit_and, tb_notN _ hy]
  show _ = (x.testBit j && !y.testBit j)
  by_cases hj : j < 64
  · rw [decide_eq_true hj, Bool.true_and]
  · rw [tb_high hx (by omega)]; rfl
theorem less1_calls (x y : Nat) (w : World) (hx : x < 18446744073709551616) (hy : y < 18446744073709551616) : Calls Tryd.prog 59 #[.int .u64 x, .int .u64 y] w fun e w' => e = .returned (.int .u64 (joinN 2 x y : Nat)) ∧ w = w' := by
  have e1 := andNot_u64 x y hx hy
  rw [less_not x y hx hy] at e1
  go_enter Tryd.func59, Tryd.ntmps59
  go_wp2
  go_ret
  exact ⟨rfl, rfl⟩
theorem xor1_calls (x y : Nat) (w : World) (hx : x < 18446744073709551616) (hy : y < 18446744073709551616) : Calls Tryd.prog 60 #[.int .u64 x, .int .u64 y] w fun e w' => e = .returned (.int .u64 (joinN 3 x y : Nat)) ∧ w = w' := by
  have e1 : bits .xor .u64 (x : Int) (y : Int) = ((x ^^^ y : Nat) : Int) := bits_xor_u64_nat x y hx hy
  go_enter Tryd.func60, Tryd.ntmps60
  go_wp2
  go_ret
  exact ⟨rfl, rfl⟩

end Go.Proofs.YtiekoidlibhoeaaDoor
