/-
  Merged by merge.py: TrAct TrDo3 TrDo4.
-/
import Derived.Deep.Slices
import Derived.ChangeSlices
import Derived.SizedLaws
import Derived.Test.YtnhdcefoigmjpaaDoorTrDrop
import Derived.Deep.CutRange
import Derived.Test.YtnhdcefoigmjpaaDoorTrK
/-
  A slice of the trie's acts (two numbers each), as an argument: opened into a list.
-/
namespace Go.Proofs.YtnhdcefoigmjpaaDoor
open Go.ChangeShapes Go.WideShapes Go.RowKit
set_option linter.unusedVariables false
set_option linter.unusedSimpArgs false

abbrev Act2 : Type := Nat × Nat
/-- A row of acts. -/
def AC2 (W : World) (a : Option Addr) (l : List Act2) : Prop := ∀ k (h : k < l.length), ∃ g o, a = some ⟨g, o, none⟩ ∧ W.cell? ⟨g, o + k * 2, none⟩ = some (.int .u8 (l[k].1 : Nat)) ∧ W.cell? ⟨g, o + k * 2 + 1, none⟩ = some (.int .u64 (l[k].2 : Nat)) ∧ l[k].1 < 256 ∧ l[k].2 < 18446744073709551616
set_option maxRecDepth 100000 in
theorem open_acts2 {H : Type} {enc : TypeId × Value → H} {W : World} {base : Nat} {spare : Nat → Bool} {held : Bool} {fuel : Nat} {cs : List Value} {x : DataW H × List MemPlace}
    (h : DataW.trod enc Tryd.prog W base spare held fuel 53 cs = some x) :
    (cs = [.slice none 0 0] ∧ x = (.nil, [])) ∨ ∃ (ad : Addr) (len cap : Nat) (l : List Act2) (ds es : List (DataW H)), cs = [.slice (some ad) len cap] ∧ l.length = len ∧ AC2 W (some ad) l ∧ x.1 = .slice ds es ∧ ds.length = len := by
  rcases Deep.open_slice Tryd.underlying53 h with h0 | ⟨ad, len, cap, m, n, D, Pl, hc, hb, hl, hm, hmm, hx, hall⟩
  · exact .inl h0
  right
  have hlm : len ≤ m := by rw [hmm]; split <;> omega
  have ce : Tryd.prog.cellsOf 55 = 2 := by kernel_rfl
  have c5 : Tryd.prog.cellsOf 5 = 1 := by kernel_rfl
  have c3 : Tryd.prog.cellsOf 31 = 1 := by kernel_rfl
  have each : ∀ i, i < len → ∃ q : Act2, W.cell? ((ad.add (i * 2)).add 0) = some (.int .u8 (q.1 : Nat)) ∧ W.cell? ((ad.add (i * 2)).add 1) = some (.int .u64 (q.2 : Nat)) ∧ q.1 < 256 ∧ q.2 < 18446744073709551616 := by
    intro i hi
    obtain ⟨cs', h1, h2⟩ := hall i (by omega)
    rw [ce] at h1
    obtain ⟨_, hlen, hcell⟩ := World.cells?_some h1
    obtain ⟨xs, k, hk, hxy, _, hxl, hf⟩ := DataW.trod_struct Tryd.underlying55 h2
    match xs, hxl, cs', hlen with
    | [y0, y1], _, [v0, v1], _ =>
      have g0 := hf 0 _ rfl
      have g1 := hf 1 _ rfl
      simp [c5, c3] at g0 g1
      obtain ⟨n0, e0, _, w0⟩ := DataW.trod_int Tryd.underlying5 g0
      obtain ⟨n1, e1, _, w1⟩ := DataW.trod_int Tryd.underlying31 g1
      simp only [List.cons.injEq, and_true] at e0 e1
      have hw := u8_bd w0
      have hw1 := u64_bd w1
      have a0 := hcell 0 (by omega)
      have a1 := hcell 1 (by omega)
      simp at a0 a1
      refine ⟨(n0.toNat, n1.toNat), ?_, ?_, ?_, ?_⟩
      · rw [a0, e0]
        show some (Value.int .u8 n0) = some (Value.int .u8 ((n0.toNat : Nat) : Int))
        rw [show ((n0.toNat : Nat) : Int) = n0 by omega]
      · rw [a1, e1]
        show some (Value.int .u64 n1) = some (Value.int .u64 ((n1.toNat : Nat) : Int))
        rw [show ((n1.toNat : Nat) : Int) = n1 by omega]
      · show n0.toNat < 256
        omega
      · show n1.toNat < 18446744073709551616
        omega
  obtain ⟨q, hq⟩ := Deep.choose_lt each
  refine ⟨ad, len, cap, (List.range len).map q, _, _, hc, by simp, ?_, by rw [hx], by simp⟩
  intro k hk
  have hk2 : k < len := by simpa using hk
  obtain ⟨b0, b1, b2, b3⟩ := hq k hk2
  obtain ⟨g, o, sp⟩ := ad
  have hsp : sp = none := by
    have := World.cell?_spot (hq 0 (by omega)).1
    simpa [Addr.add] using this
  subst hsp
  rw [Addr.add_lit, Addr.add_lit] at b0 b1
  rw [Nat.add_zero] at b0
  refine ⟨g, o, rfl, ?_, ?_, ?_, ?_⟩ <;> simp only [List.getElem_map, List.getElem_range]
  · exact b0
  · exact b1
  · exact b2
  · exact b3

/-- The same of an argument: and it is no longer than its weight allows. -/
theorem acts2_arg {H : Type} {enc : TypeId × Value → H} {W : World} {base : Nat} {spare : Nat → Bool} {held : Bool} {a : Option Addr} {len cap : Nat} {d : DataW H} {ps : List MemPlace} {ts : List TypeId} {ds : List (DataW H)} {j : Nat}
    (hsz : (DataW.weightsEach Tryd.prog ts ds).all (· ≤ reachBytes) = true) (ht : ts[j]? = some 53) (hd : ds[j]? = some d)
    (h : DataW.Trod enc Tryd.prog W base spare held 53 (.slice a len cap) d ps) : ∃ l : List Act2, l.length = len ∧ AC2 W a l ∧ len ≤ 140737488351232 := by
  obtain ⟨fuel, hf⟩ := h
  rcases open_acts2 hf with ⟨hcs, _⟩ | ⟨ad, len', cap', l, es, fs, hcs, hl, hA, hx, hes⟩
  · simp [Value.cells] at hcs
    obtain ⟨rfl, rfl, rfl⟩ := hcs
    exact ⟨[], rfl, fun k hk => absurd hk (Nat.not_lt_zero _), Nat.zero_le _⟩
  · simp [Value.cells] at hcs
    obtain ⟨rfl, rfl, rfl⟩ := hcs
    have hx : d = .slice es fs := hx
    subst hx
    refine ⟨l, hl, hA, ?_⟩
    have z := sized_slice hsz ht hd Tryd.underlying53
    have hb : 1 ≤ Tryd.prog.bytesOf 55 := by
      have : Tryd.prog.bytesOf 55 = 16 := by kernel_rfl
      omega
    have h1 : len ≤ (es.length + fs.length) * Tryd.prog.bytesOf 55 := Nat.le_trans (by omega) (Nat.le_mul_of_pos_right _ hb)
    exact Nat.le_trans (Nat.le_trans h1 z) (by decide)

end Go.Proofs.YtnhdcefoigmjpaaDoor

/-
  What the reference's Do computes; the list handed in stays as it is.
-/

namespace Go.Proofs.YtnhdcefoigmjpaaDoor
open Go.RowKit Go.Proofs.YtnhdcefoigmjpaaDoorW.PrintWords Go.Proofs.YtnhdcefoigmjpaaDoorW.PrintMore Go.Proofs.YtnhdcefoigmjpaaDoor.PTrieWalks
attribute [local go_sem] max2_int min2_int max_two min_two
set_option linter.unusedVariables false
set_option linter.unusedSimpArgs false
theorem nextref_f {l : List Nat} (h : Up l) (hlen : l.length ≤ 1000000) (k : Nat) : stepstoneref11_Next.f (l.length + 1) (keysI l) (k : Nat) = some ((((l[cntLt l k]?).getD 0 : Nat) : Int), (l[cntLt l k]?).isSome) := by
  have hc := cnt_le l k
  unfold stepstoneref11_Next.f
  rw [find_f h hlen k l.length (Nat.le_refl _), Option.bind_some, keysI_len]
  by_cases e : cntLt l k = l.length
  · rw [if_pos (by simp only; omega), List.getElem?_eq_none (by omega)]; rfl
  · have hx : l[cntLt l k]? = some l[cntLt l k] := List.getElem?_eq_getElem (by omega)
    rw [if_neg (by simp only; omega), if_pos (by simp only; omega), if_pos (by simp only; omega), rd_keys l _ _ hx, hx]; rfl
theorem prevref_f {l : List Nat} (h : Up l) (hlen : l.length ≤ 1000000) (k : Nat) : stepstoneref11_Prev.f (l.length + 1) (keysI l) (k : Nat) = some ((((if k ∈ l then k else if cntLt l k = 0 then 0 else (l[cntLt l k - 1]?).getD 0) : Nat) : Int), (decide (k ∈ l) || decide (cntLt l k ≠ 0))) := by
  have hc := cnt_le l k
  unfold stepstoneref11_Prev.f
  rw [find_f h hlen k l.length (Nat.le_refl _), Option.bind_some]
  by_cases hm : k ∈ l
  · rw [if_pos (by simpa using hm), if_pos hm, decide_eq_true hm]; rfl
  · rw [if_neg (by simpa using hm), if_neg hm, decide_eq_false hm]
    by_cases h0 : cntLt l k = 0
    · rw [if_pos (by simp only; omega), if_pos h0, h0]; rfl
    · have hx : l[cntLt l k - 1]? = some l[cntLt l k - 1] := List.getElem?_eq_getElem (by omega)
      have e : wrap64 ((cntLt l k : Int) - 1) = ((cntLt l k - 1 : Nat) : Int) := wrap_pred _ (by omega) (by omega)
      rw [if_neg (by simp only; omega), e, if_pos (by omega), if_pos (by rw [keysI_len]; omega), rd_keys l _ _ hx, if_neg h0, hx, decide_eq_true (show cntLt l k ≠ 0 from h0)]; rfl
theorem nextref_calls (A : Option Addr) (c : Nat) (l : List Nat) (k : Nat) (w : World) (hup : Up l) (hr : Kd.R (Kd.int .u64) 31 w 0 (fun _ => True) (.slice A l.length c) (keysI l)) (hl : l.length ≤ 1000000) :
    Calls Tryd.prog 69 #[.slice A l.length c, .int .u64 k] w fun e w' => e = .returned (.tuple #[.int .u64 ((l[cntLt l k]?).getD 0 : Nat), .bool (l[cntLt l k]?).isSome]) ∧ Nw w w' := by
  obtain ⟨hC, hc⟩ := R_c hr
  have h := PTrieWalks.stepstoneref11_Next.calls (l.length + 1) A c (keysI l) (k : Nat) _ _ w (by rw [keysI_len]; exact hC) (by rw [keysI_len]; exact hc) (nextref_f hup hl k)
  rw [keysI_len] at h
  exact h.mono (fun e w' ⟨h1, h2⟩ => ⟨h1, drawn_nw h2⟩)
theorem prevref_calls (A : Option Addr) (c : Nat) (l : List Nat) (k : Nat) (w : World) (hup : Up l) (hr : Kd.R (Kd.int .u64) 31 w 0 (fun _ => True) (.slice A l.length c) (keysI l)) (hl : l.length ≤ 1000000) :
    Calls Tryd.prog 70 #[.slice A l.length c, .int .u64 k] w fun e w' => e = .returned (.tuple #[.int .u64 ((if k ∈ l then k else if cntLt l k = 0 then 0 else (l[cntLt l k - 1]?).getD 0) : Nat), .bool (decide (k ∈ l) || decide (cntLt l k ≠ 0))]) ∧ Nw w w' := by
  obtain ⟨hC, hc⟩ := R_c hr
  have h := PTrieWalks.stepstoneref11_Prev.calls (l.length + 1) A c (keysI l) (k : Nat) _ _ w (by rw [keysI_len]; exact hC) (by rw [keysI_len]; exact hc) (prevref_f hup hl k)
  rw [keysI_len] at h
  exact h.mono (fun e w' ⟨h1, h2⟩ => ⟨h1, drawn_nw h2⟩)
set_option maxRecDepth 100000 in
set_option maxHeartbeats 4000000 in
theorem rdo_there0 (A : Option Addr) (c : Nat) (l : List Nat) (d k : Nat)  (w : World) (hR : Kd.R (Kd.int .u64) 31 w 0 (fun _ => True) (.slice A l.length c) (keysI l)) (hup : Up l) (hl : l.length ≤ 1000000) (hr : d % 9 = 0) (hk : k ∈ l) :
    Calls Tryd.prog 33 #[.slice A l.length c, .agg #[.int .u8 (d : Nat), .int .u64 (k : Nat)]] w fun e w' => ∃ A2 c2, e = .returned (.tuple #[.slice A2 (l).length c2, .agg #[.int .i64 4, .int .u64 0, .bool false]]) ∧ Kd.R (Kd.int .u64) 31 w' 0 (fun _ => True) (.slice A2 (l).length c2) (keysI (l)) ∧ Nw w w' := by
  have HF := Lib.hid (fun w' (hf : Nw w w') => find2_calls A c l k w' hup (R_fr hR hf (fun _ _ h => h)) hl)
  rw [decide_eq_true hk] at HF
  have hm : Int.tmod (d : Int) 9 = 0 := by rw [show (9 : Int) = ((9 : Nat) : Int) from rfl, tmod_nat, hr]; rfl
  have HR := Lib.hid hR
  clear hr hR hup hl hk
  go_enter Tryd.func33, Tryd.ntmps33
  go_wp2_with (first | (go_at_call 20; refine (HF.out _ (((Fr.refl _ w).alloc _).alloc _)).mono ?_; rintro e w1 ⟨rfl, hf⟩; have hb5 := hf.blk (blk_new2 w _ _) (fun h => h); have hb3 := hf.blk (blk_alloc (blk_new w _) _) (fun h => h); have q0 : w1.cell? ⟨w.heap.size, 0, none⟩ = some (.int .u8 (d : Nat)) := blk_cell hb3 0; have q1 : w1.cell? ⟨w.heap.size, 1, none⟩ = some (.int .u64 (k : Nat)) := blk_cell hb3 1; obtain ⟨s0, s1, s2⟩ := cells3 hb5; have k0 := blk_frozen hb5 0; have k1 := blk_frozen hb5 1; have k2 := blk_frozen hb5 2; have HB5 := Lib.hid hb5; have HN1 := Lib.hid ((((Fr.refl (fun _ => False) w).alloc (.cells #[.int .u8 d, .int .u64 k] 55)).alloc (.cells #[.int .i64 0, .int .u64 0, .bool false] 57)).trans hf); have hl1 : w.heap.size + 1 < w1.heap.size := blk_lt hb5; have hl0 : w.heap.size < w1.heap.size := Nat.lt_of_succ_lt hl1; clear hf hb5 hb3))
  (have hB := (show ((((((w1.setCell ⟨(w.heap.size + 1), 0, none⟩ (.int .i64 4)).setCell ⟨(w.heap.size + 1), 1, none⟩ (.int .u64 0)).setCell ⟨(w.heap.size + 1), 2, none⟩ (.bool false)).alloc (.cells #[.int .i64 0, .int .u64 0, .bool false] 57))).heap[w.heap.size + 1]? = _) from (blk_alloc (blk_put3 HB5.out (.int .i64 4) (.int .u64 0) (.bool false)) _)); have HNZ : Hid (Nw w ((((w1.setCell ⟨(w.heap.size + 1), 0, none⟩ (.int .i64 4)).setCell ⟨(w.heap.size + 1), 1, none⟩ (.int .u64 0)).setCell ⟨(w.heap.size + 1), 2, none⟩ (.bool false)).alloc (.cells #[.int .i64 0, .int .u64 0, .bool false] 57))) := Lib.hid (((((HN1.out).setN (Nat.le_succ _) _ _).setN (Nat.le_succ _) _ _).setN (Nat.le_succ _) _ _).alloc _); have HRZ : Hid (Kd.R (Kd.int .u64) 31 ((((w1.setCell ⟨(w.heap.size + 1), 0, none⟩ (.int .i64 4)).setCell ⟨(w.heap.size + 1), 1, none⟩ (.int .u64 0)).setCell ⟨(w.heap.size + 1), 2, none⟩ (.bool false)).alloc (.cells #[.int .i64 0, .int .u64 0, .bool false] 57)) 0 (fun _ => True) (.slice A (l).length c) (keysI l)) := Lib.hid R_fr HR.out (((((HN1.out).setN (Nat.le_succ _) _ _).setN (Nat.le_succ _) _ _).setN (Nat.le_succ _) _ _).alloc _) (fun _ _ h => h); generalize ((((w1.setCell ⟨(w.heap.size + 1), 0, none⟩ (.int .i64 4)).setCell ⟨(w.heap.size + 1), 1, none⟩ (.int .u64 0)).setCell ⟨(w.heap.size + 1), 2, none⟩ (.bool false)).alloc (.cells #[.int .i64 0, .int .u64 0, .bool false] 57)) = W9 at hB HNZ HRZ ⊢; obtain ⟨z0, z1, z2⟩ := cells3 hB; refine bodyPost_ret (by simp [results, Tryd.results33, go_sem, z0, z1, z2]; try rfl) rfl ?_; exact ⟨A, c, rfl, HRZ.out, HNZ.out⟩)
set_option maxRecDepth 100000 in
set_option maxHeartbeats 4000000 in
theorem rdo_new0 (A : Option Addr) (c : Nat) (l : List Nat) (d k : Nat)  (w : World) (hR : Kd.R (Kd.int .u64) 31 w 0 (fun _ => True) (.slice A l.length c) (keysI l)) (hup : Up l) (hl : l.length ≤ 1000000) (hr : d % 9 = 0) (hk : k ∉ l) :
    Calls Tryd.prog 33 #[.slice A l.length c, .agg #[.int .u8 (d : Nat), .int .u64 (k : Nat)]] w fun e w' => ∃ A2 c2, e = .returned (.tuple #[.slice A2 (insS l k).length c2, .agg #[.int .i64 0, .int .u64 0, .bool false]]) ∧ Kd.R (Kd.int .u64) 31 w' 0 (fun _ => True) (.slice A2 (insS l k).length c2) (keysI (insS l k)) ∧ Nw w w' := by
  have HF := Lib.hid (fun w' (hf : Nw w w') => find2_calls A c l k w' hup (R_fr hR hf (fun _ _ h => h)) hl)
  rw [decide_eq_false hk] at HF
  have had := fun w' (hf : Nw w w') => add_new A c l k w' hup (R_fr hR hf (fun _ _ h => h)) hl hk
  obtain ⟨m, hmm⟩ : ∃ m, m = insS l k := ⟨_, rfl⟩
  rw [← hmm] at had ⊢
  have HAD := Lib.hid had
  have hm : Int.tmod (d : Int) 9 = 0 := by rw [show (9 : Int) = ((9 : Nat) : Int) from rfl, tmod_nat, hr]; rfl
  have HR := Lib.hid hR
  clear hr hR hup hl hk had hmm
  go_enter Tryd.func33, Tryd.ntmps33
  go_wp2_with (first | (go_at_call 20; refine (HF.out _ (((Fr.refl _ w).alloc _).alloc _)).mono ?_; rintro e w1 ⟨rfl, hf⟩; have hb5 := hf.blk (blk_new2 w _ _) (fun h => h); have hb3 := hf.blk (blk_alloc (blk_new w _) _) (fun h => h); have q0 : w1.cell? ⟨w.heap.size, 0, none⟩ = some (.int .u8 (d : Nat)) := blk_cell hb3 0; have q1 : w1.cell? ⟨w.heap.size, 1, none⟩ = some (.int .u64 (k : Nat)) := blk_cell hb3 1; obtain ⟨s0, s1, s2⟩ := cells3 hb5; have k0 := blk_frozen hb5 0; have k1 := blk_frozen hb5 1; have k2 := blk_frozen hb5 2; have HB5 := Lib.hid hb5; have HN1 := Lib.hid ((((Fr.refl (fun _ => False) w).alloc (.cells #[.int .u8 d, .int .u64 k] 55)).alloc (.cells #[.int .i64 0, .int .u64 0, .bool false] 57)).trans hf); have hl1 : w.heap.size + 1 < w1.heap.size := blk_lt hb5; have hl0 : w.heap.size < w1.heap.size := Nat.lt_of_succ_lt hl1; clear hf hb5 hb3))
  have hb8 := blk_new w1 (.cells #[.int .i64 0, .int .u64 0, .bool false] 57)
  obtain ⟨x0, x1, x2⟩ := cells3 hb8
  have HB8 := Lib.hid hb8
  clear hb8
  go_region_law ((go_simp; go_at_call 17; refine (HAD.out _ ((HN1.out.alloc _).drew)).mono ?_; rintro e w4 ⟨A', c', rfl, hR4, hf4⟩; have hb4 := hf4.blk (blk_drew (blk_alloc HB5.out (.cells #[.int .i64 0, .int .u64 0, .bool false] 57))) (fun h => h); have hb8 := hf4.blk (blk_drew HB8.out) (fun h => h); clear x0 x1 x2 s0 s1 s2 k0 k1 k2; obtain ⟨s0, s1, s2⟩ := cells3 hb4; obtain ⟨x0, x1, x2⟩ := cells3 hb8; have k0 := blk_frozen hb4 0; have k1 := blk_frozen hb4 1; have k2 := blk_frozen hb4 2; have HR4 := Lib.hid hR4; have HF4 := Lib.hid (((Fr.refl (fun _ => False) w1).alloc (.cells #[.int .i64 0, .int .u64 0, .bool false] 57)).drew.trans hf4); clear hR4 hf4 hb4 hb8))
  all_goals go_simp
  all_goals go_wp2
  all_goals (have hb4 := (HF4.out : Nw w1 w4).blk HB5.out (fun h => h); have hB := blk_put3 hb4 (.int .i64 0) (.int .u64 0) (.bool false); have HNZ : Hid (Nw w (((w4.setCell ⟨(w.heap.size + 1), 0, none⟩ (.int .i64 0)).setCell ⟨(w.heap.size + 1), 1, none⟩ (.int .u64 0)).setCell ⟨(w.heap.size + 1), 2, none⟩ (.bool false))) := Lib.hid ((((HN1.out.trans HF4.out).setN (Nat.le_succ _) _ _).setN (Nat.le_succ _) _ _).setN (Nat.le_succ _) _ _); have HRZ : Hid (Kd.R (Kd.int .u64) 31 (((w4.setCell ⟨(w.heap.size + 1), 0, none⟩ (.int .i64 0)).setCell ⟨(w.heap.size + 1), 1, none⟩ (.int .u64 0)).setCell ⟨(w.heap.size + 1), 2, none⟩ (.bool false)) 0 (fun _ => True) (.slice A' (m).length c') (keysI m)) := Lib.hid (R_fr (R_base0 HR4.out) ((((Fr.refl (One (w.heap.size + 1)) w4).set (One.self _) 0 _).set (One.self _) 1 _).set (One.self _) 2 _) (fun q hq => by have h1 := R_ge HR4.out q hq; have h2 : q = w.heap.size + 1 → False := (by intro e; simp at h1; omega); exact h2)); generalize (((w4.setCell ⟨(w.heap.size + 1), 0, none⟩ (.int .i64 0)).setCell ⟨(w.heap.size + 1), 1, none⟩ (.int .u64 0)).setCell ⟨(w.heap.size + 1), 2, none⟩ (.bool false)) = W9 at hB HNZ HRZ ⊢; obtain ⟨z0, z1, z2⟩ := cells3 hB; refine bodyPost_ret (by simp [results, Tryd.results33, go_sem, z0, z1, z2]; try rfl) rfl ?_; exact ⟨A', c', rfl, HRZ.out, HNZ.out⟩)
set_option maxRecDepth 100000 in
set_option maxHeartbeats 4000000 in
theorem rdo_there1 (A : Option Addr) (c : Nat) (l : List Nat) (d k : Nat)  (w : World) (hR : Kd.R (Kd.int .u64) 31 w 0 (fun _ => True) (.slice A l.length c) (keysI l)) (hup : Up l) (hl : l.length ≤ 1000000) (hr : d % 9 = 1) (hk : k ∈ l) :
    Calls Tryd.prog 33 #[.slice A l.length c, .agg #[.int .u8 (d : Nat), .int .u64 (k : Nat)]] w fun e w' => ∃ A2 c2, e = .returned (.tuple #[.slice A2 (l).length c2, .agg #[.int .i64 4, .int .u64 0, .bool false]]) ∧ Kd.R (Kd.int .u64) 31 w' 0 (fun _ => True) (.slice A2 (l).length c2) (keysI (l)) ∧ Nw w w' := by
  have HF := Lib.hid (fun w' (hf : Nw w w') => find2_calls A c l k w' hup (R_fr hR hf (fun _ _ h => h)) hl)
  rw [decide_eq_true hk] at HF
  have hm : Int.tmod (d : Int) 9 = 1 := by rw [show (9 : Int) = ((9 : Nat) : Int) from rfl, tmod_nat, hr]; rfl
  have HR := Lib.hid hR
  clear hr hR hup hl hk
  go_enter Tryd.func33, Tryd.ntmps33
  go_wp2_with (first | (go_at_call 20; refine (HF.out _ (((Fr.refl _ w).alloc _).alloc _)).mono ?_; rintro e w1 ⟨rfl, hf⟩; have hb5 := hf.blk (blk_new2 w _ _) (fun h => h); have hb3 := hf.blk (blk_alloc (blk_new w _) _) (fun h => h); have q0 : w1.cell? ⟨w.heap.size, 0, none⟩ = some (.int .u8 (d : Nat)) := blk_cell hb3 0; have q1 : w1.cell? ⟨w.heap.size, 1, none⟩ = some (.int .u64 (k : Nat)) := blk_cell hb3 1; obtain ⟨s0, s1, s2⟩ := cells3 hb5; have k0 := blk_frozen hb5 0; have k1 := blk_frozen hb5 1; have k2 := blk_frozen hb5 2; have HB5 := Lib.hid hb5; have HN1 := Lib.hid ((((Fr.refl (fun _ => False) w).alloc (.cells #[.int .u8 d, .int .u64 k] 55)).alloc (.cells #[.int .i64 0, .int .u64 0, .bool false] 57)).trans hf); have hl1 : w.heap.size + 1 < w1.heap.size := blk_lt hb5; have hl0 : w.heap.size < w1.heap.size := Nat.lt_of_succ_lt hl1; clear hf hb5 hb3))
  (have hB := (show ((((((w1.setCell ⟨(w.heap.size + 1), 0, none⟩ (.int .i64 4)).setCell ⟨(w.heap.size + 1), 1, none⟩ (.int .u64 0)).setCell ⟨(w.heap.size + 1), 2, none⟩ (.bool false)).alloc (.cells #[.int .i64 0, .int .u64 0, .bool false] 57))).heap[w.heap.size + 1]? = _) from (blk_alloc (blk_put3 HB5.out (.int .i64 4) (.int .u64 0) (.bool false)) _)); have HNZ : Hid (Nw w ((((w1.setCell ⟨(w.heap.size + 1), 0, none⟩ (.int .i64 4)).setCell ⟨(w.heap.size + 1), 1, none⟩ (.int .u64 0)).setCell ⟨(w.heap.size + 1), 2, none⟩ (.bool false)).alloc (.cells #[.int .i64 0, .int .u64 0, .bool false] 57))) := Lib.hid (((((HN1.out).setN (Nat.le_succ _) _ _).setN (Nat.le_succ _) _ _).setN (Nat.le_succ _) _ _).alloc _); have HRZ : Hid (Kd.R (Kd.int .u64) 31 ((((w1.setCell ⟨(w.heap.size + 1), 0, none⟩ (.int .i64 4)).setCell ⟨(w.heap.size + 1), 1, none⟩ (.int .u64 0)).setCell ⟨(w.heap.size + 1), 2, none⟩ (.bool false)).alloc (.cells #[.int .i64 0, .int .u64 0, .bool false] 57)) 0 (fun _ => True) (.slice A (l).length c) (keysI l)) := Lib.hid R_fr HR.out (((((HN1.out).setN (Nat.le_succ _) _ _).setN (Nat.le_succ _) _ _).setN (Nat.le_succ _) _ _).alloc _) (fun _ _ h => h); generalize ((((w1.setCell ⟨(w.heap.size + 1), 0, none⟩ (.int .i64 4)).setCell ⟨(w.heap.size + 1), 1, none⟩ (.int .u64 0)).setCell ⟨(w.heap.size + 1), 2, none⟩ (.bool false)).alloc (.cells #[.int .i64 0, .int .u64 0, .bool false] 57)) = W9 at hB HNZ HRZ ⊢; obtain ⟨z0, z1, z2⟩ := cells3 hB; refine bodyPost_ret (by simp [results, Tryd.results33, go_sem, z0, z1, z2]; try rfl) rfl ?_; exact ⟨A, c, rfl, HRZ.out, HNZ.out⟩)
set_option maxRecDepth 100000 in
set_option maxHeartbeats 4000000 in
theorem rdo_new1 (A : Option Addr) (c : Nat) (l : List Nat) (d k : Nat)  (w : World) (hR : Kd.R (Kd.int .u64) 31 w 0 (fun _ => True) (.slice A l.length c) (keysI l)) (hup : Up l) (hl : l.length ≤ 1000000) (hr : d % 9 = 1) (hk : k ∉ l) :
    Calls Tryd.prog 33 #[.slice A l.length c, .agg #[.int .u8 (d : Nat), .int .u64 (k : Nat)]] w fun e w' => ∃ A2 c2, e = .returned (.tuple #[.slice A2 (insS l k).length c2, .agg #[.int .i64 0, .int .u64 0, .bool false]]) ∧ Kd.R (Kd.int .u64) 31 w' 0 (fun _ => True) (.slice A2 (insS l k).length c2) (keysI (insS l k)) ∧ Nw w w' := by
  have HF := Lib.hid (fun w' (hf : Nw w w') => find2_calls A c l k w' hup (R_fr hR hf (fun _ _ h => h)) hl)
  rw [decide_eq_false hk] at HF
  have had := fun w' (hf : Nw w w') => add_new A c l k w' hup (R_fr hR hf (fun _ _ h => h)) hl hk
  obtain ⟨m, hmm⟩ : ∃ m, m = insS l k := ⟨_, rfl⟩
  rw [← hmm] at had ⊢
  have HAD := Lib.hid had
  have hm : Int.tmod (d : Int) 9 = 1 := by rw [show (9 : Int) = ((9 : Nat) : Int) from rfl, tmod_nat, hr]; rfl
  have HR := Lib.hid hR
  clear hr hR hup hl hk had hmm
  go_enter Tryd.func33, Tryd.ntmps33
  go_wp2_with (first | (go_at_call 20; refine (HF.out _ (((Fr.refl _ w).alloc _).alloc _)).mono ?_; rintro e w1 ⟨rfl, hf⟩; have hb5 := hf.blk (blk_new2 w _ _) (fun h => h); have hb3 := hf.blk (blk_alloc (blk_new w _) _) (fun h => h); have q0 : w1.cell? ⟨w.heap.size, 0, none⟩ = some (.int .u8 (d : Nat)) := blk_cell hb3 0; have q1 : w1.cell? ⟨w.heap.size, 1, none⟩ = some (.int .u64 (k : Nat)) := blk_cell hb3 1; obtain ⟨s0, s1, s2⟩ := cells3 hb5; have k0 := blk_frozen hb5 0; have k1 := blk_frozen hb5 1; have k2 := blk_frozen hb5 2; have HB5 := Lib.hid hb5; have HN1 := Lib.hid ((((Fr.refl (fun _ => False) w).alloc (.cells #[.int .u8 d, .int .u64 k] 55)).alloc (.cells #[.int .i64 0, .int .u64 0, .bool false] 57)).trans hf); have hl1 : w.heap.size + 1 < w1.heap.size := blk_lt hb5; have hl0 : w.heap.size < w1.heap.size := Nat.lt_of_succ_lt hl1; clear hf hb5 hb3))
  have hb8 := blk_new w1 (.cells #[.int .i64 0, .int .u64 0, .bool false] 57)
  obtain ⟨x0, x1, x2⟩ := cells3 hb8
  have HB8 := Lib.hid hb8
  clear hb8
  go_region_law ((go_simp; go_at_call 17; refine (HAD.out _ ((HN1.out.alloc _).drew)).mono ?_; rintro e w4 ⟨A', c', rfl, hR4, hf4⟩; have hb4 := hf4.blk (blk_drew (blk_alloc HB5.out (.cells #[.int .i64 0, .int .u64 0, .bool false] 57))) (fun h => h); have hb8 := hf4.blk (blk_drew HB8.out) (fun h => h); clear x0 x1 x2 s0 s1 s2 k0 k1 k2; obtain ⟨s0, s1, s2⟩ := cells3 hb4; obtain ⟨x0, x1, x2⟩ := cells3 hb8; have k0 := blk_frozen hb4 0; have k1 := blk_frozen hb4 1; have k2 := blk_frozen hb4 2; have HR4 := Lib.hid hR4; have HF4 := Lib.hid (((Fr.refl (fun _ => False) w1).alloc (.cells #[.int .i64 0, .int .u64 0, .bool false] 57)).drew.trans hf4); clear hR4 hf4 hb4 hb8))
  all_goals go_simp
  all_goals go_wp2
  all_goals (have hb4 := (HF4.out : Nw w1 w4).blk HB5.out (fun h => h); have hB := blk_put3 hb4 (.int .i64 0) (.int .u64 0) (.bool false); have HNZ : Hid (Nw w (((w4.setCell ⟨(w.heap.size + 1), 0, none⟩ (.int .i64 0)).setCell ⟨(w.heap.size + 1), 1, none⟩ (.int .u64 0)).setCell ⟨(w.heap.size + 1), 2, none⟩ (.bool false))) := Lib.hid ((((HN1.out.trans HF4.out).setN (Nat.le_succ _) _ _).setN (Nat.le_succ _) _ _).setN (Nat.le_succ _) _ _); have HRZ : Hid (Kd.R (Kd.int .u64) 31 (((w4.setCell ⟨(w.heap.size + 1), 0, none⟩ (.int .i64 0)).setCell ⟨(w.heap.size + 1), 1, none⟩ (.int .u64 0)).setCell ⟨(w.heap.size + 1), 2, none⟩ (.bool false)) 0 (fun _ => True) (.slice A' (m).length c') (keysI m)) := Lib.hid (R_fr (R_base0 HR4.out) ((((Fr.refl (One (w.heap.size + 1)) w4).set (One.self _) 0 _).set (One.self _) 1 _).set (One.self _) 2 _) (fun q hq => by have h1 := R_ge HR4.out q hq; have h2 : q = w.heap.size + 1 → False := (by intro e; simp at h1; omega); exact h2)); generalize (((w4.setCell ⟨(w.heap.size + 1), 0, none⟩ (.int .i64 0)).setCell ⟨(w.heap.size + 1), 1, none⟩ (.int .u64 0)).setCell ⟨(w.heap.size + 1), 2, none⟩ (.bool false)) = W9 at hB HNZ HRZ ⊢; obtain ⟨z0, z1, z2⟩ := cells3 hB; refine bodyPost_ret (by simp [results, Tryd.results33, go_sem, z0, z1, z2]; try rfl) rfl ?_; exact ⟨A', c', rfl, HRZ.out, HNZ.out⟩)
set_option maxRecDepth 100000 in
set_option maxHeartbeats 4000000 in
theorem rdo_none2 (A : Option Addr) (c : Nat) (l : List Nat) (d k : Nat)  (w : World) (hR : Kd.R (Kd.int .u64) 31 w 0 (fun _ => True) (.slice A l.length c) (keysI l)) (hup : Up l) (hl : l.length ≤ 1000000) (hr : d % 9 = 2) (hk : k ∉ l) :
    Calls Tryd.prog 33 #[.slice A l.length c, .agg #[.int .u8 (d : Nat), .int .u64 (k : Nat)]] w fun e w' => ∃ A2 c2, e = .returned (.tuple #[.slice A2 (l).length c2, .agg #[.int .i64 3, .int .u64 0, .bool false]]) ∧ Kd.R (Kd.int .u64) 31 w' 0 (fun _ => True) (.slice A2 (l).length c2) (keysI (l)) ∧ Nw w w' := by
  have HF := Lib.hid (fun w' (hf : Nw w w') => find2_calls A c l k w' hup (R_fr hR hf (fun _ _ h => h)) hl)
  rw [decide_eq_false hk] at HF
  have hm : Int.tmod (d : Int) 9 = 2 := by rw [show (9 : Int) = ((9 : Nat) : Int) from rfl, tmod_nat, hr]; rfl
  have HR := Lib.hid hR
  clear hr hR hup hl hk
  go_enter Tryd.func33, Tryd.ntmps33
  go_wp2_with (first | (go_at_call 20; refine (HF.out _ (((Fr.refl _ w).alloc _).alloc _)).mono ?_; rintro e w1 ⟨rfl, hf⟩; have hb5 := hf.blk (blk_new2 w _ _) (fun h => h); have hb3 := hf.blk (blk_alloc (blk_new w _) _) (fun h => h); have q0 : w1.cell? ⟨w.heap.size, 0, none⟩ = some (.int .u8 (d : Nat)) := blk_cell hb3 0; have q1 : w1.cell? ⟨w.heap.size, 1, none⟩ = some (.int .u64 (k : Nat)) := blk_cell hb3 1; obtain ⟨s0, s1, s2⟩ := cells3 hb5; have k0 := blk_frozen hb5 0; have k1 := blk_frozen hb5 1; have k2 := blk_frozen hb5 2; have HB5 := Lib.hid hb5; have HN1 := Lib.hid ((((Fr.refl (fun _ => False) w).alloc (.cells #[.int .u8 d, .int .u64 k] 55)).alloc (.cells #[.int .i64 0, .int .u64 0, .bool false] 57)).trans hf); have hl1 : w.heap.size + 1 < w1.heap.size := blk_lt hb5; have hl0 : w.heap.size < w1.heap.size := Nat.lt_of_succ_lt hl1; clear hf hb5 hb3))
  (have hB := (show ((((((w1.setCell ⟨(w.heap.size + 1), 0, none⟩ (.int .i64 3)).setCell ⟨(w.heap.size + 1), 1, none⟩ (.int .u64 0)).setCell ⟨(w.heap.size + 1), 2, none⟩ (.bool false)).alloc (.cells #[.int .i64 0, .int .u64 0, .bool false] 57))).heap[w.heap.size + 1]? = _) from (blk_alloc (blk_put3 HB5.out (.int .i64 3) (.int .u64 0) (.bool false)) _)); have HNZ : Hid (Nw w ((((w1.setCell ⟨(w.heap.size + 1), 0, none⟩ (.int .i64 3)).setCell ⟨(w.heap.size + 1), 1, none⟩ (.int .u64 0)).setCell ⟨(w.heap.size + 1), 2, none⟩ (.bool false)).alloc (.cells #[.int .i64 0, .int .u64 0, .bool false] 57))) := Lib.hid (((((HN1.out).setN (Nat.le_succ _) _ _).setN (Nat.le_succ _) _ _).setN (Nat.le_succ _) _ _).alloc _); have HRZ : Hid (Kd.R (Kd.int .u64) 31 ((((w1.setCell ⟨(w.heap.size + 1), 0, none⟩ (.int .i64 3)).setCell ⟨(w.heap.size + 1), 1, none⟩ (.int .u64 0)).setCell ⟨(w.heap.size + 1), 2, none⟩ (.bool false)).alloc (.cells #[.int .i64 0, .int .u64 0, .bool false] 57)) 0 (fun _ => True) (.slice A (l).length c) (keysI l)) := Lib.hid R_fr HR.out (((((HN1.out).setN (Nat.le_succ _) _ _).setN (Nat.le_succ _) _ _).setN (Nat.le_succ _) _ _).alloc _) (fun _ _ h => h); generalize ((((w1.setCell ⟨(w.heap.size + 1), 0, none⟩ (.int .i64 3)).setCell ⟨(w.heap.size + 1), 1, none⟩ (.int .u64 0)).setCell ⟨(w.heap.size + 1), 2, none⟩ (.bool false)).alloc (.cells #[.int .i64 0, .int .u64 0, .bool false] 57)) = W9 at hB HNZ HRZ ⊢; obtain ⟨z0, z1, z2⟩ := cells3 hB; refine bodyPost_ret (by simp [results, Tryd.results33, go_sem, z0, z1, z2]; try rfl) rfl ?_; exact ⟨A, c, rfl, HRZ.out, HNZ.out⟩)
set_option maxRecDepth 100000 in
set_option maxHeartbeats 4000000 in
theorem rdo_drop2 (A : Option Addr) (c : Nat) (l : List Nat) (d k : Nat)  (w : World) (hR : Kd.R (Kd.int .u64) 31 w 0 (fun _ => True) (.slice A l.length c) (keysI l)) (hup : Up l) (hl : l.length ≤ 1000000) (hr : d % 9 = 2) (hk : k ∈ l) :
    Calls Tryd.prog 33 #[.slice A l.length c, .agg #[.int .u8 (d : Nat), .int .u64 (k : Nat)]] w fun e w' => ∃ A2 c2, e = .returned (.tuple #[.slice A2 (dropS l k).length c2, .agg #[.int .i64 0, .int .u64 0, .bool false]]) ∧ Kd.R (Kd.int .u64) 31 w' 0 (fun _ => True) (.slice A2 (dropS l k).length c2) (keysI (dropS l k)) ∧ Nw w w' := by
  have HF := Lib.hid (fun w' (hf : Nw w w') => find2_calls A c l k w' hup (R_fr hR hf (fun _ _ h => h)) hl)
  rw [decide_eq_true hk] at HF
  have had := fun w' (hf : Nw w w') => drop_there A c l k w' hup (R_fr hR hf (fun _ _ h => h)) hl hk
  obtain ⟨m, hmm⟩ : ∃ m, m = dropS l k := ⟨_, rfl⟩
  rw [← hmm] at had ⊢
  have HAD := Lib.hid had
  have hm : Int.tmod (d : Int) 9 = 2 := by rw [show (9 : Int) = ((9 : Nat) : Int) from rfl, tmod_nat, hr]; rfl
  have HR := Lib.hid hR
  clear hr hR hup hl hk had hmm
  go_enter Tryd.func33, Tryd.ntmps33
  go_wp2_with (first | (go_at_call 20; refine (HF.out _ (((Fr.refl _ w).alloc _).alloc _)).mono ?_; rintro e w1 ⟨rfl, hf⟩; have hb5 := hf.blk (blk_new2 w _ _) (fun h => h); have hb3 := hf.blk (blk_alloc (blk_new w _) _) (fun h => h); have q0 : w1.cell? ⟨w.heap.size, 0, none⟩ = some (.int .u8 (d : Nat)) := blk_cell hb3 0; have q1 : w1.cell? ⟨w.heap.size, 1, none⟩ = some (.int .u64 (k : Nat)) := blk_cell hb3 1; obtain ⟨s0, s1, s2⟩ := cells3 hb5; have k0 := blk_frozen hb5 0; have k1 := blk_frozen hb5 1; have k2 := blk_frozen hb5 2; have HB5 := Lib.hid hb5; have HN1 := Lib.hid ((((Fr.refl (fun _ => False) w).alloc (.cells #[.int .u8 d, .int .u64 k] 55)).alloc (.cells #[.int .i64 0, .int .u64 0, .bool false] 57)).trans hf); have hl1 : w.heap.size + 1 < w1.heap.size := blk_lt hb5; have hl0 : w.heap.size < w1.heap.size := Nat.lt_of_succ_lt hl1; clear hf hb5 hb3))
  have hb8 := blk_new w1 (.cells #[.int .i64 0, .int .u64 0, .bool false] 57)
  obtain ⟨x0, x1, x2⟩ := cells3 hb8
  have HB8 := Lib.hid hb8
  clear hb8
  go_region_law ((go_simp; go_at_call 24; refine (HAD.out _ ((HN1.out.alloc _).drew)).mono ?_; rintro e w4 ⟨A', c', rfl, hR4, hf4⟩; have hb4 := hf4.blk (blk_drew (blk_alloc HB5.out (.cells #[.int .i64 0, .int .u64 0, .bool false] 57))) (fun h => h); have hb8 := hf4.blk (blk_drew HB8.out) (fun h => h); clear x0 x1 x2 s0 s1 s2 k0 k1 k2; obtain ⟨s0, s1, s2⟩ := cells3 hb4; obtain ⟨x0, x1, x2⟩ := cells3 hb8; have k0 := blk_frozen hb4 0; have k1 := blk_frozen hb4 1; have k2 := blk_frozen hb4 2; have HR4 := Lib.hid hR4; have HF4 := Lib.hid (((Fr.refl (fun _ => False) w1).alloc (.cells #[.int .i64 0, .int .u64 0, .bool false] 57)).drew.trans hf4); clear hR4 hf4 hb4 hb8))
  all_goals go_simp
  all_goals go_wp2
  all_goals (have hb4 := (HF4.out : Nw w1 w4).blk HB5.out (fun h => h); have hB := blk_put3 hb4 (.int .i64 0) (.int .u64 0) (.bool false); have HNZ : Hid (Nw w (((w4.setCell ⟨(w.heap.size + 1), 0, none⟩ (.int .i64 0)).setCell ⟨(w.heap.size + 1), 1, none⟩ (.int .u64 0)).setCell ⟨(w.heap.size + 1), 2, none⟩ (.bool false))) := Lib.hid ((((HN1.out.trans HF4.out).setN (Nat.le_succ _) _ _).setN (Nat.le_succ _) _ _).setN (Nat.le_succ _) _ _); have HRZ : Hid (Kd.R (Kd.int .u64) 31 (((w4.setCell ⟨(w.heap.size + 1), 0, none⟩ (.int .i64 0)).setCell ⟨(w.heap.size + 1), 1, none⟩ (.int .u64 0)).setCell ⟨(w.heap.size + 1), 2, none⟩ (.bool false)) 0 (fun _ => True) (.slice A' (m).length c') (keysI m)) := Lib.hid (R_fr (R_base0 HR4.out) ((((Fr.refl (One (w.heap.size + 1)) w4).set (One.self _) 0 _).set (One.self _) 1 _).set (One.self _) 2 _) (fun q hq => by have h1 := R_ge HR4.out q hq; have h2 : q = w.heap.size + 1 → False := (by intro e; simp at h1; omega); exact h2)); generalize (((w4.setCell ⟨(w.heap.size + 1), 0, none⟩ (.int .i64 0)).setCell ⟨(w.heap.size + 1), 1, none⟩ (.int .u64 0)).setCell ⟨(w.heap.size + 1), 2, none⟩ (.bool false)) = W9 at hB HNZ HRZ ⊢; obtain ⟨z0, z1, z2⟩ := cells3 hB; refine bodyPost_ret (by simp [results, Tryd.results33, go_sem, z0, z1, z2]; try rfl) rfl ?_; exact ⟨A', c', rfl, HRZ.out, HNZ.out⟩)
set_option maxRecDepth 100000 in
set_option maxHeartbeats 4000000 in
theorem rdo_3 (A : Option Addr) (c : Nat) (l : List Nat) (d k : Nat) (bk : Bool) (w : World) (hR : Kd.R (Kd.int .u64) 31 w 0 (fun _ => True) (.slice A l.length c) (keysI l)) (hup : Up l) (hl : l.length ≤ 1000000) (hr : d % 9 = 3) (hbk : bk = decide (k ∈ l)) :
    Calls Tryd.prog 33 #[.slice A l.length c, .agg #[.int .u8 (d : Nat), .int .u64 (k : Nat)]] w fun e w' => ∃ A2 c2, e = .returned (.tuple #[.slice A2 (l).length c2, .agg #[.int .i64 0, .int .u64 0, .bool bk]]) ∧ Kd.R (Kd.int .u64) 31 w' 0 (fun _ => True) (.slice A2 (l).length c2) (keysI (l)) ∧ Nw w w' := by
  have HF := Lib.hid (fun w' (hf : Nw w w') => find2_calls A c l k w' hup (R_fr hR hf (fun _ _ h => h)) hl)
  rw [← hbk] at HF
  have hm : Int.tmod (d : Int) 9 = 3 := by rw [show (9 : Int) = ((9 : Nat) : Int) from rfl, tmod_nat, hr]; rfl
  have HR := Lib.hid hR
  clear hr hR hup hl hbk
  go_enter Tryd.func33, Tryd.ntmps33
  go_wp2_with (first | (go_at_call 20; refine (HF.out _ (((Fr.refl _ w).alloc _).alloc _)).mono ?_; rintro e w1 ⟨rfl, hf⟩; have hb5 := hf.blk (blk_new2 w _ _) (fun h => h); have hb3 := hf.blk (blk_alloc (blk_new w _) _) (fun h => h); have q0 : w1.cell? ⟨w.heap.size, 0, none⟩ = some (.int .u8 (d : Nat)) := blk_cell hb3 0; have q1 : w1.cell? ⟨w.heap.size, 1, none⟩ = some (.int .u64 (k : Nat)) := blk_cell hb3 1; obtain ⟨s0, s1, s2⟩ := cells3 hb5; have k0 := blk_frozen hb5 0; have k1 := blk_frozen hb5 1; have k2 := blk_frozen hb5 2; have HB5 := Lib.hid hb5; have HN1 := Lib.hid ((((Fr.refl (fun _ => False) w).alloc (.cells #[.int .u8 d, .int .u64 k] 55)).alloc (.cells #[.int .i64 0, .int .u64 0, .bool false] 57)).trans hf); have hl1 : w.heap.size + 1 < w1.heap.size := blk_lt hb5; have hl0 : w.heap.size < w1.heap.size := Nat.lt_of_succ_lt hl1; clear hf hb5 hb3))
  go_region
  all_goals go_wp2
  all_goals (have hB := (show (((((((w1.setCell ⟨(w.heap.size + 1), 0, none⟩ (.int .i64 0)).setCell ⟨(w.heap.size + 1), 1, none⟩ (.int .u64 0)).setCell ⟨(w.heap.size + 1), 2, none⟩ (.bool bk)).alloc (.cells #[.int .i64 0, .int .u64 0, .bool bk] 57)).drew)).heap[w.heap.size + 1]? = _) from (blk_drew (blk_alloc (blk_put3 HB5.out (.int .i64 0) (.int .u64 0) (.bool bk)) _))); have HNZ : Hid (Nw w (((((w1.setCell ⟨(w.heap.size + 1), 0, none⟩ (.int .i64 0)).setCell ⟨(w.heap.size + 1), 1, none⟩ (.int .u64 0)).setCell ⟨(w.heap.size + 1), 2, none⟩ (.bool bk)).alloc (.cells #[.int .i64 0, .int .u64 0, .bool bk] 57)).drew)) := Lib.hid ((((((HN1.out).setN (Nat.le_succ _) _ _).setN (Nat.le_succ _) _ _).setN (Nat.le_succ _) _ _).alloc _).drew); have HRZ : Hid (Kd.R (Kd.int .u64) 31 (((((w1.setCell ⟨(w.heap.size + 1), 0, none⟩ (.int .i64 0)).setCell ⟨(w.heap.size + 1), 1, none⟩ (.int .u64 0)).setCell ⟨(w.heap.size + 1), 2, none⟩ (.bool bk)).alloc (.cells #[.int .i64 0, .int .u64 0, .bool bk] 57)).drew) 0 (fun _ => True) (.slice A (l).length c) (keysI l)) := Lib.hid R_fr HR.out ((((((HN1.out).setN (Nat.le_succ _) _ _).setN (Nat.le_succ _) _ _).setN (Nat.le_succ _) _ _).alloc _).drew) (fun _ _ h => h); generalize (((((w1.setCell ⟨(w.heap.size + 1), 0, none⟩ (.int .i64 0)).setCell ⟨(w.heap.size + 1), 1, none⟩ (.int .u64 0)).setCell ⟨(w.heap.size + 1), 2, none⟩ (.bool bk)).alloc (.cells #[.int .i64 0, .int .u64 0, .bool bk] 57)).drew) = W9 at hB HNZ HRZ ⊢; obtain ⟨z0, z1, z2⟩ := cells3 hB; refine bodyPost_ret (by simp [results, Tryd.results33, go_sem, z0, z1, z2]; try rfl) rfl ?_; exact ⟨A, c, rfl, HRZ.out, HNZ.out⟩)
set_option maxRecDepth 100000 in
set_option maxHeartbeats 4000000 in
theorem rdo_4 (A : Option Addr) (c : Nat) (l : List Nat) (d k : Nat) (K : Nat) (Y : Bool) (w : World) (hR : Kd.R (Kd.int .u64) 31 w 0 (fun _ => True) (.slice A l.length c) (keysI l)) (hup : Up l) (hl : l.length ≤ 1000000) (hr : d % 9 = 4) (HNX0 : ∀ w', Nw w w' → Calls Tryd.prog 69 #[.slice A l.length c, .int .u64 (k : Nat)] w' fun e w'' => e = .returned (.tuple #[.int .u64 (K : Nat), .bool Y]) ∧ Nw w' w'') :
    Calls Tryd.prog 33 #[.slice A l.length c, .agg #[.int .u8 (d : Nat), .int .u64 (k : Nat)]] w fun e w' => ∃ A2 c2, e = .returned (.tuple #[.slice A2 (l).length c2, .agg #[.int .i64 0, .int .u64 ((K : Nat) : Int), .bool Y]]) ∧ Kd.R (Kd.int .u64) 31 w' 0 (fun _ => True) (.slice A2 (l).length c2) (keysI (l)) ∧ Nw w w' := by
  have HF := Lib.hid (fun w' (hf : Nw w w') => find2_calls A c l k w' hup (R_fr hR hf (fun _ _ h => h)) hl)
  have HNX := Lib.hid HNX0
  have hm : Int.tmod (d : Int) 9 = 4 := by rw [show (9 : Int) = ((9 : Nat) : Int) from rfl, tmod_nat, hr]; rfl
  have HR := Lib.hid hR
  clear hr hR hup hl HNX0
  go_enter Tryd.func33, Tryd.ntmps33
  obtain ⟨bk, hbk⟩ : ∃ bk, bk = decide (k ∈ l) := ⟨_, rfl⟩
  rw [← hbk] at HF
  clear hbk
  go_wp2_with (first
    | (go_at_call 20; refine (HF.out _ (((Fr.refl _ w).alloc _).alloc _)).mono ?_; rintro e w1 ⟨rfl, hf⟩; have hb5 := hf.blk (blk_new2 w _ _) (fun h => h); have hb3 := hf.blk (blk_alloc (blk_new w _) _) (fun h => h); have q0 : w1.cell? ⟨w.heap.size, 0, none⟩ = some (.int .u8 (d : Nat)) := blk_cell hb3 0; have q1 : w1.cell? ⟨w.heap.size, 1, none⟩ = some (.int .u64 (k : Nat)) := blk_cell hb3 1; obtain ⟨s0, s1, s2⟩ := cells3 hb5; have k0 := blk_frozen hb5 0; have k1 := blk_frozen hb5 1; have k2 := blk_frozen hb5 2; have HB5 := Lib.hid hb5; have HN1 := Lib.hid ((((Fr.refl (fun _ => False) w).alloc (.cells #[.int .u8 d, .int .u64 k] 55)).alloc (.cells #[.int .i64 0, .int .u64 0, .bool false] 57)).trans hf); have hl1 : w.heap.size + 1 < w1.heap.size := blk_lt hb5; have hl0 : w.heap.size < w1.heap.size := Nat.lt_of_succ_lt hl1; clear hf hb5 hb3)
    | (go_at_call 69; refine (HNX.out _ (HN1.out.alloc _)).mono ?_; rintro e w4 ⟨rfl, hf4⟩; have hb4 := hf4.blk (blk_alloc HB5.out (.cells #[.int .i64 0, .int .u64 0, .bool false] 57)) (fun h => h); have hb8 := hf4.blk (blk_new w1 (.cells #[.int .i64 0, .int .u64 0, .bool false] 57)) (fun h => h); clear s0 s1 s2 k0 k1 k2; obtain ⟨s0, s1, s2⟩ := cells3 hb4; obtain ⟨x0, x1, x2⟩ := cells3 hb8; have k0 := blk_frozen hb4 0; have k1 := blk_frozen hb4 1; have k2 := blk_frozen hb4 2; have y0 := blk_frozen hb8 0; have y1 := blk_frozen hb8 1; have y2 := blk_frozen hb8 2; have HF4 := Lib.hid (((Fr.refl (fun _ => False) w1).alloc (.cells #[.int .i64 0, .int .u64 0, .bool false] 57)).trans hf4); have hl4 := blk_lt hb8; clear hf4 hb4 hb8))
  go_region
  all_goals go_wp2
  all_goals (have hB := (show (((((((w4.setCell ⟨w1.heap.size, 1, none⟩ (.int .u64 (K : Nat))).setCell ⟨w1.heap.size, 2, none⟩ (.bool Y)).setCell ⟨(w.heap.size + 1), 0, none⟩ (.int .i64 0)).setCell ⟨(w.heap.size + 1), 1, none⟩ (.int .u64 ((K : Nat) : Int))).setCell ⟨(w.heap.size + 1), 2, none⟩ (.bool Y)).drew).heap[w.heap.size + 1]? = _) from blk_drew (blk_put3 ((((Fr.refl (One w1.heap.size) w4).set (One.self _) 1 (.int .u64 (K : Nat))).set (One.self _) 2 (.bool Y)).blk (HF4.out.blk HB5.out (fun h => h)) (by simp only [One]; omega)) (.int .i64 0) (.int .u64 ((K : Nat) : Int)) (.bool Y))); have HNZ : Hid (Nw w (((((w4.setCell ⟨w1.heap.size, 1, none⟩ (.int .u64 (K : Nat))).setCell ⟨w1.heap.size, 2, none⟩ (.bool Y)).setCell ⟨(w.heap.size + 1), 0, none⟩ (.int .i64 0)).setCell ⟨(w.heap.size + 1), 1, none⟩ (.int .u64 ((K : Nat) : Int))).setCell ⟨(w.heap.size + 1), 2, none⟩ (.bool Y)).drew) := Lib.hid (((((HN1.out.trans ((HF4.out.setN (Nat.le_refl _) 1 (.int .u64 (K : Nat))).setN (Nat.le_refl _) 2 (.bool Y)))).setN (Nat.le_succ _) _ _).setN (Nat.le_succ _) _ _).setN (Nat.le_succ _) _ _).drew; have HRZ : Hid (Kd.R (Kd.int .u64) 31 (((((w4.setCell ⟨w1.heap.size, 1, none⟩ (.int .u64 (K : Nat))).setCell ⟨w1.heap.size, 2, none⟩ (.bool Y)).setCell ⟨(w.heap.size + 1), 0, none⟩ (.int .i64 0)).setCell ⟨(w.heap.size + 1), 1, none⟩ (.int .u64 ((K : Nat) : Int))).setCell ⟨(w.heap.size + 1), 2, none⟩ (.bool Y)).drew 0 (fun _ => True) (.slice A (l).length c) (keysI l)) := Lib.hid R_fr HR.out (((((HN1.out.trans ((HF4.out.setN (Nat.le_refl _) 1 (.int .u64 (K : Nat))).setN (Nat.le_refl _) 2 (.bool Y)))).setN (Nat.le_succ _) _ _).setN (Nat.le_succ _) _ _).setN (Nat.le_succ _) _ _).drew (fun _ _ h => h); generalize (((((w4.setCell ⟨w1.heap.size, 1, none⟩ (.int .u64 (K : Nat))).setCell ⟨w1.heap.size, 2, none⟩ (.bool Y)).setCell ⟨(w.heap.size + 1), 0, none⟩ (.int .i64 0)).setCell ⟨(w.heap.size + 1), 1, none⟩ (.int .u64 ((K : Nat) : Int))).setCell ⟨(w.heap.size + 1), 2, none⟩ (.bool Y)).drew = W9 at hB HNZ HRZ ⊢; obtain ⟨z0, z1, z2⟩ := cells3 hB; refine bodyPost_ret (by simp [results, Tryd.results33, go_sem, z0, z1, z2]; try rfl) rfl ?_; exact ⟨A, c, rfl, HRZ.out, HNZ.out⟩)
set_option maxRecDepth 100000 in
set_option maxHeartbeats 4000000 in
theorem rdo_5 (A : Option Addr) (c : Nat) (l : List Nat) (d k : Nat) (K : Nat) (Y : Bool) (w : World) (hR : Kd.R (Kd.int .u64) 31 w 0 (fun _ => True) (.slice A l.length c) (keysI l)) (hup : Up l) (hl : l.length ≤ 1000000) (hr : d % 9 = 5) (HNX0 : ∀ w', Nw w w' → Calls Tryd.prog 70 #[.slice A l.length c, .int .u64 (k : Nat)] w' fun e w'' => e = .returned (.tuple #[.int .u64 (K : Nat), .bool Y]) ∧ Nw w' w'') :
    Calls Tryd.prog 33 #[.slice A l.length c, .agg #[.int .u8 (d : Nat), .int .u64 (k : Nat)]] w fun e w' => ∃ A2 c2, e = .returned (.tuple #[.slice A2 (l).length c2, .agg #[.int .i64 0, .int .u64 ((K : Nat) : Int), .bool Y]]) ∧ Kd.R (Kd.int .u64) 31 w' 0 (fun _ => True) (.slice A2 (l).length c2) (keysI (l)) ∧ Nw w w' := by
  have HF := Lib.hid (fun w' (hf : Nw w w') => find2_calls A c l k w' hup (R_fr hR hf (fun _ _ h => h)) hl)
  have HNX := Lib.hid HNX0
  have hm : Int.tmod (d : Int) 9 = 5 := by rw [show (9 : Int) = ((9 : Nat) : Int) from rfl, tmod_nat, hr]; rfl
  have HR := Lib.hid hR
  clear hr hR hup hl HNX0
  go_enter Tryd.func33, Tryd.ntmps33
  obtain ⟨bk, hbk⟩ : ∃ bk, bk = decide (k ∈ l) := ⟨_, rfl⟩
  rw [← hbk] at HF
  clear hbk
  go_wp2_with (first
    | (go_at_call 20; refine (HF.out _ (((Fr.refl _ w).alloc _).alloc _)).mono ?_; rintro e w1 ⟨rfl, hf⟩; have hb5 := hf.blk (blk_new2 w _ _) (fun h => h); have hb3 := hf.blk (blk_alloc (blk_new w _) _) (fun h => h); have q0 : w1.cell? ⟨w.heap.size, 0, none⟩ = some (.int .u8 (d : Nat)) := blk_cell hb3 0; have q1 : w1.cell? ⟨w.heap.size, 1, none⟩ = some (.int .u64 (k : Nat)) := blk_cell hb3 1; obtain ⟨s0, s1, s2⟩ := cells3 hb5; have k0 := blk_frozen hb5 0; have k1 := blk_frozen hb5 1; have k2 := blk_frozen hb5 2; have HB5 := Lib.hid hb5; have HN1 := Lib.hid ((((Fr.refl (fun _ => False) w).alloc (.cells #[.int .u8 d, .int .u64 k] 55)).alloc (.cells #[.int .i64 0, .int .u64 0, .bool false] 57)).trans hf); have hl1 : w.heap.size + 1 < w1.heap.size := blk_lt hb5; have hl0 : w.heap.size < w1.heap.size := Nat.lt_of_succ_lt hl1; clear hf hb5 hb3)
    | (go_at_call 70; refine (HNX.out _ (HN1.out.alloc _)).mono ?_; rintro e w4 ⟨rfl, hf4⟩; have hb4 := hf4.blk (blk_alloc HB5.out (.cells #[.int .i64 0, .int .u64 0, .bool false] 57)) (fun h => h); have hb8 := hf4.blk (blk_new w1 (.cells #[.int .i64 0, .int .u64 0, .bool false] 57)) (fun h => h); clear s0 s1 s2 k0 k1 k2; obtain ⟨s0, s1, s2⟩ := cells3 hb4; obtain ⟨x0, x1, x2⟩ := cells3 hb8; have k0 := blk_frozen hb4 0; have k1 := blk_frozen hb4 1; have k2 := blk_frozen hb4 2; have y0 := blk_frozen hb8 0; have y1 := blk_frozen hb8 1; have y2 := blk_frozen hb8 2; have HF4 := Lib.hid (((Fr.refl (fun _ => False) w1).alloc (.cells #[.int .i64 0, .int .u64 0, .bool false] 57)).trans hf4); have hl4 := blk_lt hb8; clear hf4 hb4 hb8))
  go_region
  all_goals go_wp2
  all_goals (have hB := (show (((((((w4.setCell ⟨w1.heap.size, 1, none⟩ (.int .u64 (K : Nat))).setCell ⟨w1.heap.size, 2, none⟩ (.bool Y)).setCell ⟨(w.heap.size + 1), 0, none⟩ (.int .i64 0)).setCell ⟨(w.heap.size + 1), 1, none⟩ (.int .u64 ((K : Nat) : Int))).setCell ⟨(w.heap.size + 1), 2, none⟩ (.bool Y)).drew).heap[w.heap.size + 1]? = _) from blk_drew (blk_put3 ((((Fr.refl (One w1.heap.size) w4).set (One.self _) 1 (.int .u64 (K : Nat))).set (One.self _) 2 (.bool Y)).blk (HF4.out.blk HB5.out (fun h => h)) (by simp only [One]; omega)) (.int .i64 0) (.int .u64 ((K : Nat) : Int)) (.bool Y))); have HNZ : Hid (Nw w (((((w4.setCell ⟨w1.heap.size, 1, none⟩ (.int .u64 (K : Nat))).setCell ⟨w1.heap.size, 2, none⟩ (.bool Y)).setCell ⟨(w.heap.size + 1), 0, none⟩ (.int .i64 0)).setCell ⟨(w.heap.size + 1), 1, none⟩ (.int .u64 ((K : Nat) : Int))).setCell ⟨(w.heap.size + 1), 2, none⟩ (.bool Y)).drew) := Lib.hid (((((HN1.out.trans ((HF4.out.setN (Nat.le_refl _) 1 (.int .u64 (K : Nat))).setN (Nat.le_refl _) 2 (.bool Y)))).setN (Nat.le_succ _) _ _).setN (Nat.le_succ _) _ _).setN (Nat.le_succ _) _ _).drew; have HRZ : Hid (Kd.R (Kd.int .u64) 31 (((((w4.setCell ⟨w1.heap.size, 1, none⟩ (.int .u64 (K : Nat))).setCell ⟨w1.heap.size, 2, none⟩ (.bool Y)).setCell ⟨(w.heap.size + 1), 0, none⟩ (.int .i64 0)).setCell ⟨(w.heap.size + 1), 1, none⟩ (.int .u64 ((K : Nat) : Int))).setCell ⟨(w.heap.size + 1), 2, none⟩ (.bool Y)).drew 0 (fun _ => True) (.slice A (l).length c) (keysI l)) := Lib.hid R_fr HR.out (((((HN1.out.trans ((HF4.out.setN (Nat.le_refl _) 1 (.int .u64 (K : Nat))).setN (Nat.le_refl _) 2 (.bool Y)))).setN (Nat.le_succ _) _ _).setN (Nat.le_succ _) _ _).setN (Nat.le_succ _) _ _).drew (fun _ _ h => h); generalize (((((w4.setCell ⟨w1.heap.size, 1, none⟩ (.int .u64 (K : Nat))).setCell ⟨w1.heap.size, 2, none⟩ (.bool Y)).setCell ⟨(w.heap.size + 1), 0, none⟩ (.int .i64 0)).setCell ⟨(w.heap.size + 1), 1, none⟩ (.int .u64 ((K : Nat) : Int))).setCell ⟨(w.heap.size + 1), 2, none⟩ (.bool Y)).drew = W9 at hB HNZ HRZ ⊢; obtain ⟨z0, z1, z2⟩ := cells3 hB; refine bodyPost_ret (by simp [results, Tryd.results33, go_sem, z0, z1, z2]; try rfl) rfl ?_; exact ⟨A, c, rfl, HRZ.out, HNZ.out⟩)
set_option maxRecDepth 100000 in
set_option maxHeartbeats 4000000 in
theorem rdo_6 (A : Option Addr) (c : Nat) (l : List Nat) (d k : Nat) (K : Nat) (Y : Bool) (w : World) (hR : Kd.R (Kd.int .u64) 31 w 0 (fun _ => True) (.slice A l.length c) (keysI l)) (hup : Up l) (hl : l.length ≤ 1000000) (hr : d % 9 = 6) (HNX0 : ∀ w', Nw w w' → Calls Tryd.prog 69 #[.slice A l.length c, .int .u64 0] w' fun e w'' => e = .returned (.tuple #[.int .u64 (K : Nat), .bool Y]) ∧ Nw w' w'') :
    Calls Tryd.prog 33 #[.slice A l.length c, .agg #[.int .u8 (d : Nat), .int .u64 (k : Nat)]] w fun e w' => ∃ A2 c2, e = .returned (.tuple #[.slice A2 (l).length c2, .agg #[.int .i64 0, .int .u64 ((K : Nat) : Int), .bool Y]]) ∧ Kd.R (Kd.int .u64) 31 w' 0 (fun _ => True) (.slice A2 (l).length c2) (keysI (l)) ∧ Nw w w' := by
  have HF := Lib.hid (fun w' (hf : Nw w w') => find2_calls A c l k w' hup (R_fr hR hf (fun _ _ h => h)) hl)
  have HNX := Lib.hid HNX0
  have hm : Int.tmod (d : Int) 9 = 6 := by rw [show (9 : Int) = ((9 : Nat) : Int) from rfl, tmod_nat, hr]; rfl
  have HR := Lib.hid hR
  clear hr hR hup hl HNX0
  go_enter Tryd.func33, Tryd.ntmps33
  obtain ⟨bk, hbk⟩ : ∃ bk, bk = decide (k ∈ l) := ⟨_, rfl⟩
  rw [← hbk] at HF
  clear hbk
  go_wp2_with (first
    | (go_at_call 20; refine (HF.out _ (((Fr.refl _ w).alloc _).alloc _)).mono ?_; rintro e w1 ⟨rfl, hf⟩; have hb5 := hf.blk (blk_new2 w _ _) (fun h => h); have hb3 := hf.blk (blk_alloc (blk_new w _) _) (fun h => h); have q0 : w1.cell? ⟨w.heap.size, 0, none⟩ = some (.int .u8 (d : Nat)) := blk_cell hb3 0; have q1 : w1.cell? ⟨w.heap.size, 1, none⟩ = some (.int .u64 (k : Nat)) := blk_cell hb3 1; obtain ⟨s0, s1, s2⟩ := cells3 hb5; have k0 := blk_frozen hb5 0; have k1 := blk_frozen hb5 1; have k2 := blk_frozen hb5 2; have HB5 := Lib.hid hb5; have HN1 := Lib.hid ((((Fr.refl (fun _ => False) w).alloc (.cells #[.int .u8 d, .int .u64 k] 55)).alloc (.cells #[.int .i64 0, .int .u64 0, .bool false] 57)).trans hf); have hl1 : w.heap.size + 1 < w1.heap.size := blk_lt hb5; have hl0 : w.heap.size < w1.heap.size := Nat.lt_of_succ_lt hl1; clear hf hb5 hb3)
    | (go_at_call 69; refine (HNX.out _ (HN1.out.alloc _)).mono ?_; rintro e w4 ⟨rfl, hf4⟩; have hb4 := hf4.blk (blk_alloc HB5.out (.cells #[.int .i64 0, .int .u64 0, .bool false] 57)) (fun h => h); have hb8 := hf4.blk (blk_new w1 (.cells #[.int .i64 0, .int .u64 0, .bool false] 57)) (fun h => h); clear s0 s1 s2 k0 k1 k2; obtain ⟨s0, s1, s2⟩ := cells3 hb4; obtain ⟨x0, x1, x2⟩ := cells3 hb8; have k0 := blk_frozen hb4 0; have k1 := blk_frozen hb4 1; have k2 := blk_frozen hb4 2; have y0 := blk_frozen hb8 0; have y1 := blk_frozen hb8 1; have y2 := blk_frozen hb8 2; have HF4 := Lib.hid (((Fr.refl (fun _ => False) w1).alloc (.cells #[.int .i64 0, .int .u64 0, .bool false] 57)).trans hf4); have hl4 := blk_lt hb8; clear hf4 hb4 hb8))
  go_region
  all_goals go_wp2
  all_goals (have hB := (show (((((((w4.setCell ⟨w1.heap.size, 1, none⟩ (.int .u64 (K : Nat))).setCell ⟨w1.heap.size, 2, none⟩ (.bool Y)).setCell ⟨(w.heap.size + 1), 0, none⟩ (.int .i64 0)).setCell ⟨(w.heap.size + 1), 1, none⟩ (.int .u64 ((K : Nat) : Int))).setCell ⟨(w.heap.size + 1), 2, none⟩ (.bool Y)).drew).heap[w.heap.size + 1]? = _) from blk_drew (blk_put3 ((((Fr.refl (One w1.heap.size) w4).set (One.self _) 1 (.int .u64 (K : Nat))).set (One.self _) 2 (.bool Y)).blk (HF4.out.blk HB5.out (fun h => h)) (by simp only [One]; omega)) (.int .i64 0) (.int .u64 ((K : Nat) : Int)) (.bool Y))); have HNZ : Hid (Nw w (((((w4.setCell ⟨w1.heap.size, 1, none⟩ (.int .u64 (K : Nat))).setCell ⟨w1.heap.size, 2, none⟩ (.bool Y)).setCell ⟨(w.heap.size + 1), 0, none⟩ (.int .i64 0)).setCell ⟨(w.heap.size + 1), 1, none⟩ (.int .u64 ((K : Nat) : Int))).setCell ⟨(w.heap.size + 1), 2, none⟩ (.bool Y)).drew) := Lib.hid (((((HN1.out.trans ((HF4.out.setN (Nat.le_refl _) 1 (.int .u64 (K : Nat))).setN (Nat.le_refl _) 2 (.bool Y)))).setN (Nat.le_succ _) _ _).setN (Nat.le_succ _) _ _).setN (Nat.le_succ _) _ _).drew; have HRZ : Hid (Kd.R (Kd.int .u64) 31 (((((w4.setCell ⟨w1.heap.size, 1, none⟩ (.int .u64 (K : Nat))).setCell ⟨w1.heap.size, 2, none⟩ (.bool Y)).setCell ⟨(w.heap.size + 1), 0, none⟩ (.int .i64 0)).setCell ⟨(w.heap.size + 1), 1, none⟩ (.int .u64 ((K : Nat) : Int))).setCell ⟨(w.heap.size + 1), 2, none⟩ (.bool Y)).drew 0 (fun _ => True) (.slice A (l).length c) (keysI l)) := Lib.hid R_fr HR.out (((((HN1.out.trans ((HF4.out.setN (Nat.le_refl _) 1 (.int .u64 (K : Nat))).setN (Nat.le_refl _) 2 (.bool Y)))).setN (Nat.le_succ _) _ _).setN (Nat.le_succ _) _ _).setN (Nat.le_succ _) _ _).drew (fun _ _ h => h); generalize (((((w4.setCell ⟨w1.heap.size, 1, none⟩ (.int .u64 (K : Nat))).setCell ⟨w1.heap.size, 2, none⟩ (.bool Y)).setCell ⟨(w.heap.size + 1), 0, none⟩ (.int .i64 0)).setCell ⟨(w.heap.size + 1), 1, none⟩ (.int .u64 ((K : Nat) : Int))).setCell ⟨(w.heap.size + 1), 2, none⟩ (.bool Y)).drew = W9 at hB HNZ HRZ ⊢; obtain ⟨z0, z1, z2⟩ := cells3 hB; refine bodyPost_ret (by simp [results, Tryd.results33, go_sem, z0, z1, z2]; try rfl) rfl ?_; exact ⟨A, c, rfl, HRZ.out, HNZ.out⟩)
set_option maxRecDepth 100000 in
set_option maxHeartbeats 4000000 in
theorem rdo_7 (A : Option Addr) (c : Nat) (l : List Nat) (d k : Nat) (K : Nat) (Y : Bool) (w : World) (hR : Kd.R (Kd.int .u64) 31 w 0 (fun _ => True) (.slice A l.length c) (keysI l)) (hup : Up l) (hl : l.length ≤ 1000000) (hr : d % 9 = 7) (HNX0 : ∀ w', Nw w w' → Calls Tryd.prog 70 #[.slice A l.length c, .int .u64 18446744073709551615] w' fun e w'' => e = .returned (.tuple #[.int .u64 (K : Nat), .bool Y]) ∧ Nw w' w'') :
    Calls Tryd.prog 33 #[.slice A l.length c, .agg #[.int .u8 (d : Nat), .int .u64 (k : Nat)]] w fun e w' => ∃ A2 c2, e = .returned (.tuple #[.slice A2 (l).length c2, .agg #[.int .i64 0, .int .u64 ((K : Nat) : Int), .bool Y]]) ∧ Kd.R (Kd.int .u64) 31 w' 0 (fun _ => True) (.slice A2 (l).length c2) (keysI (l)) ∧ Nw w w' := by
  have HF := Lib.hid (fun w' (hf : Nw w w') => find2_calls A c l k w' hup (R_fr hR hf (fun _ _ h => h)) hl)
  have HNX := Lib.hid HNX0
  have hm : Int.tmod (d : Int) 9 = 7 := by rw [show (9 : Int) = ((9 : Nat) : Int) from rfl, tmod_nat, hr]; rfl
  have HR := Lib.hid hR
  clear hr hR hup hl HNX0
  go_enter Tryd.func33, Tryd.ntmps33
  obtain ⟨bk, hbk⟩ : ∃ bk, bk = decide (k ∈ l) := ⟨_, rfl⟩
  rw [← hbk] at HF
  clear hbk
  go_wp2_with (first
    | (go_at_call 20; refine (HF.out _ (((Fr.refl _ w).alloc _).alloc _)).mono ?_; rintro e w1 ⟨rfl, hf⟩; have hb5 := hf.blk (blk_new2 w _ _) (fun h => h); have hb3 := hf.blk (blk_alloc (blk_new w _) _) (fun h => h); have q0 : w1.cell? ⟨w.heap.size, 0, none⟩ = some (.int .u8 (d : Nat)) := blk_cell hb3 0; have q1 : w1.cell? ⟨w.heap.size, 1, none⟩ = some (.int .u64 (k : Nat)) := blk_cell hb3 1; obtain ⟨s0, s1, s2⟩ := cells3 hb5; have k0 := blk_frozen hb5 0; have k1 := blk_frozen hb5 1; have k2 := blk_frozen hb5 2; have HB5 := Lib.hid hb5; have HN1 := Lib.hid ((((Fr.refl (fun _ => False) w).alloc (.cells #[.int .u8 d, .int .u64 k] 55)).alloc (.cells #[.int .i64 0, .int .u64 0, .bool false] 57)).trans hf); have hl1 : w.heap.size + 1 < w1.heap.size := blk_lt hb5; have hl0 : w.heap.size < w1.heap.size := Nat.lt_of_succ_lt hl1; clear hf hb5 hb3)
    | (go_at_call 70; refine (HNX.out _ (HN1.out.alloc _)).mono ?_; rintro e w4 ⟨rfl, hf4⟩; have hb4 := hf4.blk (blk_alloc HB5.out (.cells #[.int .i64 0, .int .u64 0, .bool false] 57)) (fun h => h); have hb8 := hf4.blk (blk_new w1 (.cells #[.int .i64 0, .int .u64 0, .bool false] 57)) (fun h => h); clear s0 s1 s2 k0 k1 k2; obtain ⟨s0, s1, s2⟩ := cells3 hb4; obtain ⟨x0, x1, x2⟩ := cells3 hb8; have k0 := blk_frozen hb4 0; have k1 := blk_frozen hb4 1; have k2 := blk_frozen hb4 2; have y0 := blk_frozen hb8 0; have y1 := blk_frozen hb8 1; have y2 := blk_frozen hb8 2; have HF4 := Lib.hid (((Fr.refl (fun _ => False) w1).alloc (.cells #[.int .i64 0, .int .u64 0, .bool false] 57)).trans hf4); have hl4 := blk_lt hb8; clear hf4 hb4 hb8))
  go_region
  all_goals go_wp2
  all_goals (have hB := (show (((((((w4.setCell ⟨w1.heap.size, 1, none⟩ (.int .u64 (K : Nat))).setCell ⟨w1.heap.size, 2, none⟩ (.bool Y)).setCell ⟨(w.heap.size + 1), 0, none⟩ (.int .i64 0)).setCell ⟨(w.heap.size + 1), 1, none⟩ (.int .u64 ((K : Nat) : Int))).setCell ⟨(w.heap.size + 1), 2, none⟩ (.bool Y)).drew).heap[w.heap.size + 1]? = _) from blk_drew (blk_put3 ((((Fr.refl (One w1.heap.size) w4).set (One.self _) 1 (.int .u64 (K : Nat))).set (One.self _) 2 (.bool Y)).blk (HF4.out.blk HB5.out (fun h => h)) (by simp only [One]; omega)) (.int .i64 0) (.int .u64 ((K : Nat) : Int)) (.bool Y))); have HNZ : Hid (Nw w (((((w4.setCell ⟨w1.heap.size, 1, none⟩ (.int .u64 (K : Nat))).setCell ⟨w1.heap.size, 2, none⟩ (.bool Y)).setCell ⟨(w.heap.size + 1), 0, none⟩ (.int .i64 0)).setCell ⟨(w.heap.size + 1), 1, none⟩ (.int .u64 ((K : Nat) : Int))).setCell ⟨(w.heap.size + 1), 2, none⟩ (.bool Y)).drew) := Lib.hid (((((HN1.out.trans ((HF4.out.setN (Nat.le_refl _) 1 (.int .u64 (K : Nat))).setN (Nat.le_refl _) 2 (.bool Y)))).setN (Nat.le_succ _) _ _).setN (Nat.le_succ _) _ _).setN (Nat.le_succ _) _ _).drew; have HRZ : Hid (Kd.R (Kd.int .u64) 31 (((((w4.setCell ⟨w1.heap.size, 1, none⟩ (.int .u64 (K : Nat))).setCell ⟨w1.heap.size, 2, none⟩ (.bool Y)).setCell ⟨(w.heap.size + 1), 0, none⟩ (.int .i64 0)).setCell ⟨(w.heap.size + 1), 1, none⟩ (.int .u64 ((K : Nat) : Int))).setCell ⟨(w.heap.size + 1), 2, none⟩ (.bool Y)).drew 0 (fun _ => True) (.slice A (l).length c) (keysI l)) := Lib.hid R_fr HR.out (((((HN1.out.trans ((HF4.out.setN (Nat.le_refl _) 1 (.int .u64 (K : Nat))).setN (Nat.le_refl _) 2 (.bool Y)))).setN (Nat.le_succ _) _ _).setN (Nat.le_succ _) _ _).setN (Nat.le_succ _) _ _).drew (fun _ _ h => h); generalize (((((w4.setCell ⟨w1.heap.size, 1, none⟩ (.int .u64 (K : Nat))).setCell ⟨w1.heap.size, 2, none⟩ (.bool Y)).setCell ⟨(w.heap.size + 1), 0, none⟩ (.int .i64 0)).setCell ⟨(w.heap.size + 1), 1, none⟩ (.int .u64 ((K : Nat) : Int))).setCell ⟨(w.heap.size + 1), 2, none⟩ (.bool Y)).drew = W9 at hB HNZ HRZ ⊢; obtain ⟨z0, z1, z2⟩ := cells3 hB; refine bodyPost_ret (by simp [results, Tryd.results33, go_sem, z0, z1, z2]; try rfl) rfl ?_; exact ⟨A, c, rfl, HRZ.out, HNZ.out⟩)
set_option maxRecDepth 100000 in
set_option maxHeartbeats 4000000 in
theorem rdo_8 (A : Option Addr) (c : Nat) (l : List Nat) (d k : Nat)  (w : World) (hR : Kd.R (Kd.int .u64) 31 w 0 (fun _ => True) (.slice A l.length c) (keysI l)) (hup : Up l) (hl : l.length ≤ 1000000) (hr : d % 9 = 8)  :
    Calls Tryd.prog 33 #[.slice A l.length c, .agg #[.int .u8 (d : Nat), .int .u64 (k : Nat)]] w fun e w' => ∃ A2 c2, e = .returned (.tuple #[.slice A2 (([] : List Nat)).length c2, .agg #[.int .i64 0, .int .u64 0, .bool false]]) ∧ Kd.R (Kd.int .u64) 31 w' 0 (fun _ => True) (.slice A2 (([] : List Nat)).length c2) (keysI (([] : List Nat))) ∧ Nw w w' := by
  have HF := Lib.hid (fun w' (hf : Nw w w') => find2_calls A c l k w' hup (R_fr hR hf (fun _ _ h => h)) hl)
  have hm : Int.tmod (d : Int) 9 = 8 := by rw [show (9 : Int) = ((9 : Nat) : Int) from rfl, tmod_nat, hr]; rfl
  have HR := Lib.hid hR
  clear hr hR hup hl
  go_enter Tryd.func33, Tryd.ntmps33
  obtain ⟨bk, hbk⟩ : ∃ bk, bk = decide (k ∈ l) := ⟨_, rfl⟩
  rw [← hbk] at HF
  clear hbk
  go_wp2_with (first | (go_at_call 20; refine (HF.out _ (((Fr.refl _ w).alloc _).alloc _)).mono ?_; rintro e w1 ⟨rfl, hf⟩; have hb5 := hf.blk (blk_new2 w _ _) (fun h => h); have hb3 := hf.blk (blk_alloc (blk_new w _) _) (fun h => h); have q0 : w1.cell? ⟨w.heap.size, 0, none⟩ = some (.int .u8 (d : Nat)) := blk_cell hb3 0; have q1 : w1.cell? ⟨w.heap.size, 1, none⟩ = some (.int .u64 (k : Nat)) := blk_cell hb3 1; obtain ⟨s0, s1, s2⟩ := cells3 hb5; have k0 := blk_frozen hb5 0; have k1 := blk_frozen hb5 1; have k2 := blk_frozen hb5 2; have HB5 := Lib.hid hb5; have HN1 := Lib.hid ((((Fr.refl (fun _ => False) w).alloc (.cells #[.int .u8 d, .int .u64 k] 55)).alloc (.cells #[.int .i64 0, .int .u64 0, .bool false] 57)).trans hf); have hl1 : w.heap.size + 1 < w1.heap.size := blk_lt hb5; have hl0 : w.heap.size < w1.heap.size := Nat.lt_of_succ_lt hl1; clear hf hb5 hb3))
  go_region
  all_goals go_wp2
  all_goals (have hB := (show (((((((w1.setCell ⟨(w.heap.size + 1), 0, none⟩ (.int .i64 0)).setCell ⟨(w.heap.size + 1), 1, none⟩ (.int .u64 0)).setCell ⟨(w.heap.size + 1), 2, none⟩ (.bool false)).alloc (.cells #[.int .i64 0, .int .u64 0, .bool false] 57)).drew)).heap[w.heap.size + 1]? = _) from (blk_drew (blk_alloc (blk_put3 HB5.out (.int .i64 0) (.int .u64 0) (.bool false)) _))); have HNZ : Hid (Nw w (((((w1.setCell ⟨(w.heap.size + 1), 0, none⟩ (.int .i64 0)).setCell ⟨(w.heap.size + 1), 1, none⟩ (.int .u64 0)).setCell ⟨(w.heap.size + 1), 2, none⟩ (.bool false)).alloc (.cells #[.int .i64 0, .int .u64 0, .bool false] 57)).drew)) := Lib.hid ((((((HN1.out).setN (Nat.le_succ _) _ _).setN (Nat.le_succ _) _ _).setN (Nat.le_succ _) _ _).alloc _).drew); have HRZ : Hid (Kd.R (Kd.int .u64) 31 (((((w1.setCell ⟨(w.heap.size + 1), 0, none⟩ (.int .i64 0)).setCell ⟨(w.heap.size + 1), 1, none⟩ (.int .u64 0)).setCell ⟨(w.heap.size + 1), 2, none⟩ (.bool false)).alloc (.cells #[.int .i64 0, .int .u64 0, .bool false] 57)).drew) 0 (fun _ => True) (.slice none (([] : List Nat)).length 0) (keysI ([] : List Nat))) := Lib.hid (Kd.R_nil _ _ _ _ _); generalize (((((w1.setCell ⟨(w.heap.size + 1), 0, none⟩ (.int .i64 0)).setCell ⟨(w.heap.size + 1), 1, none⟩ (.int .u64 0)).setCell ⟨(w.heap.size + 1), 2, none⟩ (.bool false)).alloc (.cells #[.int .i64 0, .int .u64 0, .bool false] 57)).drew) = W9 at hB HNZ HRZ ⊢; obtain ⟨z0, z1, z2⟩ := cells3 hB; refine bodyPost_ret (by simp [results, Tryd.results33, go_sem, z0, z1, z2]; try rfl) rfl ?_; exact ⟨none, 0, rfl, HRZ.out, HNZ.out⟩)
end Go.Proofs.YtnhdcefoigmjpaaDoor

/-
  The reference's Do on any act; how many steps an act may take; answers compared.
-/

namespace Go.Proofs.YtnhdcefoigmjpaaDoor
open Go.RowKit Go.Proofs.YtnhdcefoigmjpaaDoorW.PrintWords Go.Proofs.YtnhdcefoigmjpaaDoorW.PrintMore Go.Proofs.YtnhdcefoigmjpaaDoor.PTrieWalks
attribute [local go_sem] max2_int min2_int max_two min_two
set_option linter.unusedVariables false
set_option linter.unusedSimpArgs false
theorem ans_eq3 (E : Int) (d : Nat) (W : World) : (Op.equalIn (d + 1) 3 (.int .i64 E) (.int .i64 E)).run Tryd.prog W = .ok true W := by simp [Op.equalIn, run_underlying Tryd.underlying3]
theorem ans_eq31 (E : Int) (d : Nat) (W : World) : (Op.equalIn (d + 1) 31 (.int .u64 E) (.int .u64 E)).run Tryd.prog W = .ok true W := by simp [Op.equalIn, run_underlying Tryd.underlying31]
theorem ans_eq4 (E : Bool) (d : Nat) (W : World) : (Op.equalIn (d + 1) 4 (.bool E) (.bool E)).run Tryd.prog W = .ok true W := by simp [Op.equalIn, run_underlying Tryd.underlying4]
set_option maxRecDepth 100000 in
theorem ans_neq (E K : Int) (Y : Bool) (W : World) : (binOp .neq 57 (.agg #[.int .i64 E, .int .u64 K, .bool Y]) (.agg #[.int .i64 E, .int .u64 K, .bool Y])).run Tryd.prog W = .ok (.bool false) W := by
  have h : (Op.equalIn (9999 + 1) 57 (.agg #[.int .i64 E, .int .u64 K, .bool Y]) (.agg #[.int .i64 E, .int .u64 K, .bool Y])).run Tryd.prog W = .ok true W := by
    refine eqA_of Tryd.underlying57 (by kernel_rfl) ?_
    refine eqf_cons (r := true) (s := true) (a := .int .i64 E) (b := .int .i64 E) (by kernel_rfl) (by kernel_rfl) (by kernel_rfl) (ans_eq3 E 9998 W) ?_
    refine eqf_cons (r := true) (s := true) (a := .int .u64 K) (b := .int .u64 K) (by kernel_rfl) (by kernel_rfl) (by kernel_rfl) (ans_eq31 K 9998 W) ?_
    exact eqf_cons (r := true) (s := true) (a := .bool Y) (b := .bool Y) (by kernel_rfl) (by kernel_rfl) (by kernel_rfl) (ans_eq4 Y 9998 W) eqf_nil
  simp only [binOp]
  simp [Op.equal, Op.maxDepth, h]

theorem nxt_zero (l : List Nat) : (l[cntLt l 0]?).getD 0 = l.headD 0 ∧ (l[cntLt l 0]?).isSome = decide (l ≠ []) := by
  have e : cntLt l 0 = 0 := by unfold cntLt; rw [List.filter_eq_nil_iff.2 (fun x _ => by simp)]; rfl
  rw [e]
  cases l <;> simp
theorem prv_top {l : List Nat} (h : Up l) (hb : ∀ x, x ∈ l → x < 18446744073709551616) (k : Nat) (hk : k = 18446744073709551615) :
    (if k ∈ l then k else if cntLt l k = 0 then 0 else (l[cntLt l k - 1]?).getD 0) = l.getLastD 0 ∧ (decide (k ∈ l) || decide (cntLt l k ≠ 0)) = decide (l ≠ []) := by
  by_cases hne : l = []
  · subst hne; exact ⟨by simp [cntLt], by simp [cntLt]⟩
  · have hp : IsPrv l k (l.getLastD 0) := ⟨last_mem hne 0, by have := hb _ (last_mem hne 0); omega, fun x hx _ => last_ge h 0 hx⟩
    have e := prvV_some h hp
    rw [prv_ans] at e
    simp only [Value.tuple.injEq, Array.mk.injEq, List.cons.injEq, Value.int.injEq, Value.bool.injEq, true_and, and_true] at e
    refine ⟨by have := e.1; exact_mod_cast this, ?_⟩
    rw [e.2, decide_eq_true hne]
theorem refdo_calls (A : Option Addr) (c : Nat) (l : List Nat) (d k : Nat) (w : World) (hR : Kd.R (Kd.int .u64) 31 w 0 (fun _ => True) (.slice A l.length c) (keysI l)) (hup : Up l) (hl : l.length ≤ 1000000) (hbd : ∀ x, x ∈ l → x < 18446744073709551616) :
    Calls Tryd.prog 33 #[.slice A l.length c, .agg #[.int .u8 (d : Nat), .int .u64 (k : Nat)]] w fun e w' => ∃ A2 c2, e = .returned (.tuple #[.slice A2 (ansA l (d % 9) k).2.length c2, .agg #[.int .i64 (((ansA l (d % 9) k).1.1 : Nat) : Int), .int .u64 (((ansA l (d % 9) k).1.2.1 : Nat) : Int), .bool ((ansA l (d % 9) k).1.2.2)]]) ∧ Kd.R (Kd.int .u64) 31 w' 0 (fun _ => True) (.slice A2 (ansA l (d % 9) k).2.length c2) (keysI (ansA l (d % 9) k).2) ∧ Nw w w' := by
  have hlt : d % 9 < 9 := Nat.mod_lt _ (by decide)
  obtain ⟨r, hr⟩ : ∃ r, r = d % 9 := ⟨_, rfl⟩
  rw [← hr] at hlt ⊢
  have : r = 0 ∨ r = 1 ∨ r = 2 ∨ r = 3 ∨ r = 4 ∨ r = 5 ∨ r = 6 ∨ r = 7 ∨ r = 8 := by omega
  rcases this with rfl | rfl | rfl | rfl | rfl | rfl | rfl | rfl | rfl
  · by_cases hk : k ∈ l
    · have e : ansA l 0 k = ((4, 0, false), l) := by simp [ansA, hk]
      rw [e]; exact rdo_there0 A c l d k w hR hup hl hr.symm hk
    · have e : ansA l 0 k = ((0, 0, false), insS l k) := by simp [ansA, hk]
      rw [e]; exact rdo_new0 A c l d k w hR hup hl hr.symm hk
  · by_cases hk : k ∈ l
    · have e : ansA l 1 k = ((4, 0, false), l) := by simp [ansA, hk]
      rw [e]; exact rdo_there1 A c l d k w hR hup hl hr.symm hk
    · have e : ansA l 1 k = ((0, 0, false), insS l k) := by simp [ansA, hk]
      rw [e]; exact rdo_new1 A c l d k w hR hup hl hr.symm hk
  · by_cases hk : k ∈ l
    · have e : ansA l 2 k = ((0, 0, false), dropS l k) := by simp [ansA, hk]
      rw [e]; exact rdo_drop2 A c l d k w hR hup hl hr.symm hk
    · have e : ansA l 2 k = ((3, 0, false), l) := by simp [ansA, hk]
      rw [e]; exact rdo_none2 A c l d k w hR hup hl hr.symm hk
  · exact rdo_3 A c l d k _ w hR hup hl hr.symm rfl
  · exact rdo_4 A c l d k _ _ w hR hup hl hr.symm (fun w' hf => nextref_calls A c l k w' hup (R_fr hR hf (fun _ _ h => h)) hl)
  · exact rdo_5 A c l d k _ _ w hR hup hl hr.symm (fun w' hf => prevref_calls A c l k w' hup (R_fr hR hf (fun _ _ h => h)) hl)
  · refine rdo_6 A c l d k _ _ w hR hup hl hr.symm (fun w' hf => ?_)
    have := nextref_calls A c l 0 w' hup (R_fr hR hf (fun _ _ h => h)) hl
    rw [(nxt_zero l).1, (nxt_zero l).2] at this
    exact this
  · refine rdo_7 A c l d k _ _ w hR hup hl hr.symm (fun w' hf => ?_)
    have := prevref_calls A c l 18446744073709551615 w' hup (R_fr hR hf (fun _ _ h => h)) hl
    rw [(prv_top hup hbd _ rfl).1, (prv_top hup hbd _ rfl).2] at this
    exact this
  · exact rdo_8 A c l d k w hR hup hl hr.symm
theorem steps_calls (d : Nat) (w : World) : Calls Tryd.prog 36 #[.int .u8 (d : Nat)] w fun e w' => e = .returned (.int .i64 (stepsN (d % 9) : Nat)) ∧ Nw w w' := by
  have hlt : d % 9 < 9 := Nat.mod_lt _ (by decide)
  have hf : stepstonelaw11_steps.f 1 (d : Nat) = some ((stepsN (d % 9) : Nat) : Int) := by
    unfold stepstonelaw11_steps.f
    rw [show (9 : Int) = ((9 : Nat) : Int) from rfl, tmod_nat]
    obtain ⟨r, hr⟩ : ∃ r, r = d % 9 := ⟨_, rfl⟩
    rw [← hr] at hlt ⊢
    have : r = 0 ∨ r = 1 ∨ r = 2 ∨ r = 3 ∨ r = 4 ∨ r = 5 ∨ r = 6 ∨ r = 7 ∨ r = 8 := by omega
    rcases this with rfl | rfl | rfl | rfl | rfl | rfl | rfl | rfl | rfl <;> rfl
  exact (PTrieWalks.stepstonelaw11_steps.calls 1 (d : Nat) _ w hf).mono (fun e w' ⟨h1, h2⟩ => ⟨h1, drawn_nw h2⟩)
theorem ansA_up {l : List Nat} (h : Up l) (r k : Nat) : Up (ansA l r k).2 := by
  unfold ansA
  by_cases h1 : r < 2
  · rw [if_pos h1]
    by_cases hk : k ∈ l
    · rw [if_pos hk]; exact h
    · rw [if_neg hk]; exact up_insS h hk
  · rw [if_neg h1]
    by_cases h2 : r = 2
    · rw [if_pos h2]
      by_cases hk : k ∈ l
      · rw [if_pos hk]; exact up_dropS h k
      · rw [if_neg hk]; exact h
    · rw [if_neg h2]
      repeat' split
      all_goals first | exact h | exact List.Pairwise.nil
theorem ansA_mem {l : List Nat} {r k x : Nat} (hx : x ∈ (ansA l r k).2) : x ∈ l ∨ x = k := by
  unfold ansA at hx
  by_cases h1 : r < 2
  · rw [if_pos h1] at hx
    by_cases hk : k ∈ l
    · rw [if_pos hk] at hx; exact .inl hx
    · rw [if_neg hk] at hx
      rcases (mem_insS l k x).1 hx with h | h
      · exact .inr h
      · exact .inl h
  · rw [if_neg h1] at hx
    by_cases h2 : r = 2
    · rw [if_pos h2] at hx
      by_cases hk : k ∈ l
      · rw [if_pos hk] at hx; exact .inl ((mem_dropS l k x).1 hx).1
      · rw [if_neg hk] at hx; exact .inl hx
    · rw [if_neg h2] at hx
      by_cases h3 : r = 3
      · rw [if_pos h3] at hx; exact .inl hx
      · rw [if_neg h3] at hx
        by_cases h4 : r = 4
        · rw [if_pos h4] at hx; exact .inl hx
        · rw [if_neg h4] at hx
          by_cases h5 : r = 5
          · rw [if_pos h5] at hx; exact .inl hx
          · rw [if_neg h5] at hx
            by_cases h6 : r = 6
            · rw [if_pos h6] at hx; exact .inl hx
            · rw [if_neg h6] at hx
              by_cases h7 : r = 7
              · rw [if_pos h7] at hx; exact .inl hx
              · rw [if_neg h7] at hx; cases hx
theorem ansA_len (l : List Nat) (r k : Nat) : (ansA l r k).2.length ≤ l.length + 1 := by
  unfold ansA
  by_cases h1 : r < 2
  · rw [if_pos h1]
    by_cases hk : k ∈ l
    · rw [if_pos hk]; exact Nat.le_succ _
    · rw [if_neg hk]; show (insS l k).length ≤ _; rw [len_insS]; exact Nat.le_refl _
  · rw [if_neg h1]
    by_cases h2 : r = 2
    · rw [if_pos h2]
      by_cases hk : k ∈ l
      · rw [if_pos hk]; show (dropS l k).length ≤ _; exact Nat.le_succ_of_le (List.length_filter_le _ _)
      · rw [if_neg hk]; exact Nat.le_succ _
    · rw [if_neg h2]
      repeat' split
      all_goals first | exact Nat.le_succ _ | exact Nat.zero_le _
theorem used_drop {l : List Nat} (h : Up l) {k : Nat} (hk : k ∈ l) : used (dropS l k) ≤ used l := by
  have hkd : k ∉ dropS l k := fun h => by rw [mem_dropS] at h; exact h.2 rfl
  obtain ⟨m, hm⟩ := depth_exists (dropS l k) k
  have := used_ins (up_dropS h k) hkd hm.1 hm.2
  rw [ins_drop h hk] at this
  omega
/-- What an act leaves fits, but for a full one. -/
theorem ansA_used {l : List Nat} (h : Up l) {lim r k : Nat} (hu : used l ≤ lim) (hnf : ¬ FullA lim l r k) : used (ansA l r k).2 ≤ lim := by
  unfold ansA
  by_cases h1 : r < 2
  · rw [if_pos h1]
    by_cases hk : k ∈ l
    · rw [if_pos hk]; exact hu
    · rw [if_neg hk]; exact Nat.le_of_not_lt fun hh => hnf ⟨h1, hk, hh⟩
  · rw [if_neg h1]
    by_cases h2 : r = 2
    · rw [if_pos h2]
      by_cases hk : k ∈ l
      · rw [if_pos hk]; exact Nat.le_trans (used_drop h hk) hu
      · rw [if_neg hk]; exact hu
    · rw [if_neg h2]
      repeat' split
      all_goals first | exact hu | (show used [] ≤ lim; rw [used_nil]; omega)
/-- A full one is one that would be taken, but does not fit. -/
theorem full_iff (lim : Nat) (l : List Nat) (r k : Nat) : FullA lim l r k ↔ r < 2 ∧ (ansA l r k).1.1 = 0 ∧ lim < used (ansA l r k).2 := by
  unfold FullA ansA
  by_cases h1 : r < 2
  · simp only [if_pos h1, true_and, h1]
    by_cases hk : k ∈ l
    · simp [hk]
    · simp [hk]
  · constructor
    · rintro ⟨h, _⟩; exact absurd h h1
    · rintro ⟨h, _⟩; exact absurd h h1
end Go.Proofs.YtnhdcefoigmjpaaDoor

