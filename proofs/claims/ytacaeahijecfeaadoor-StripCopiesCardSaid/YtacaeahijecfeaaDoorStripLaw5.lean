/-
  StripCopies: a copy is alike, and goes its own way; what was handed in and out is nobody else's.
-/
import Derived.Test.YtacaeahijecfeaaDoorStripEq
import Derived.Test.YtacaeahijecfeaaDoorStripAwake
import Derived.Test.YtacaeahijecfeaaDoorStripBits
namespace Go.Proofs.YtacaeahijecfeaaDoor
open Go.RowKit Go.Shelf Go.Proofs.YtacaeahijecfeaaDoorW.PrintWords Go.Proofs.YtacaeahijecfeaaDoorW.PrintMore
set_option linter.unusedVariables false
set_option linter.unusedSimpArgs false

theorem WR.C' {W : World} {g : Nat} {l : List Int} (h : WR W g l.length (bigN l)) (hn : l.length ≤ 4096) (hb : ∀ a, a ∈ l → 0 ≤ a ∧ a ≤ 18446744073709551615) : Kd.C (Kd.int .u64) W (some ⟨g, 0, none⟩) l.length l :=
  Kd.C_of_reads (d := (0 : Int)) (h1 := fun _ => rfl) ⟨rfl, by omega, fun _ => ⟨_, rfl, fun j hj => by
    have h1 := h.cell hj
    have h2 := bigN_words l hb
    have h3 : (wordN (bigN l) j : Int) = l[j] := by
      have := wordsI_get l.length (bigN l) j (by rw [wordsI_len]; exact hj)
      rw [← this]; simp only [h2]
    rw [Addr.add_lit, Nat.zero_add, List.getD_eq_getElem?_getD, List.getElem?_eq_getElem hj]
    rw [h3] at h1
    exact h1⟩⟩
theorem R_keep64 {W W1 : World} {base : Nat} {v : Value} {l : List Int} (h : Kd.R (Kd.int .u64) 48 W base (fun _ => True) v l)
    (hk : ∀ g cs m, base ≤ g → W.heap[g]? = some (.cells cs 48 m) → W1.heap[g]? = some (.cells cs 48 m)) : Kd.R (Kd.int .u64) 48 W1 base (fun _ => True) v l := by
  obtain ⟨hl, hrow⟩ := Kd.own_of_R h
  rcases hrow with ⟨rfl, h0⟩ | ⟨g, cap, cur, rfl, hg, hblk, h1⟩
  · exact Kd.R_of_own ⟨hl, .inl ⟨rfl, h0⟩⟩ (fun _ _ => trivial)
  · exact Kd.R_of_own ⟨hl, .inr ⟨g, cap, cur, rfl, hg, hk g _ _ hg hblk, h1⟩⟩ (fun _ _ => trivial)
theorem R_block {W : World} {base : Nat} {A : Option Addr} {n c : Nat} {l : List Int} (h : Kd.R (Kd.int .u64) 48 W base (fun _ => True) (.slice A n c) l) (hn : 0 < l.length) :
    ∃ g cur, A = some ⟨g, 0, none⟩ ∧ base ≤ g ∧ W.heap[g]? = some (.cells cur 48 (0, 0)) ∧ l.length ≤ cur.size ∧ ∀ j (hj : j < l.length), cur[j]? = some (.int .u64 l[j]) := by
  obtain ⟨hl, hrow⟩ := Kd.own_of_R h
  rcases hrow with ⟨_, h0⟩ | ⟨g, cap, cur, hv, hg, hblk, h1, h2, h3, h4⟩
  · omega
  · injection hv with hA _ _
    refine ⟨g, cur, hA, hg, hblk, by omega, fun j hj => ?_⟩
    have h5 : (cur.toList.take (l.length * 1))[j]? = (l.map (Value.int .u64))[j]? := by rw [h4]; rfl
    rw [List.getElem?_take, if_pos (by omega), List.getElem?_map, List.getElem?_eq_getElem hj] at h5
    rw [← Array.getElem?_toList, h5]; rfl

set_option maxRecDepth 100000 in
set_option maxHeartbeats 4000000 in
theorem copies_walk (A0 : Option Addr) (c0 : Nat) (l0 : List Int) (i : Int) (w : World) (hr : Kd.C (Kd.int .u64) w A0 l0.length l0) (hb : ∀ a, a ∈ l0 → 0 ≤ a ∧ a ≤ 18446744073709551615) (hn : l0.length ≤ 140737488351232) (hT : Tb w) :
    Calls Tryd.prog 5 #[.slice A0 l0.length c0, .int .i64 i] w fun e w' => e = .returned (.bool true) ∧ Nw w w' := by
  have HT := Lib.hid hT
  have HR0 := Lib.hid hr
  have K1 := Lib.hid (fun W h => words_calls A0 c0 l0 6 W h hn (by omega))
  have hbd : ∀ a, a ∈ l0.take 6 → 0 ≤ a ∧ a ≤ 18446744073709551615 := fun a ha => hb a (List.mem_of_mem_take ha)
  have hl6 : (l0.take 6).length ≤ 6 := by rw [List.length_take]; omega
  obtain ⟨l, hl⟩ : ∃ l, l = l0.take 6 := ⟨_, rfl⟩
  rw [← hl] at K1 hbd hl6
  obtain ⟨L0, hL0⟩ : ∃ L, L = l0.length := ⟨_, rfl⟩
  rw [← hL0] at K1 HR0 ⊢
  have K2 := Lib.hid (fun A c W h => words_calls A c l 6 W h (by omega) (by omega))
  rw [List.take_of_length_le hl6] at K2
  have K3 := Lib.hid (fun A c W h => of_calls A c l W h hbd (by omega))
  have hbw := bigN_words l hbd
  have K4 := Lib.hid (fun (g c A2 c2 W) (h1 : WR W g l.length (bigN l)) (h2 : Kd.C (Kd.int .u64) W A2 l.length l) => samekeys_calls (some ⟨g, 0, none⟩) A2 c c2 l l W (h1.C' (by omega) hbd) h2 (by omega))
  rw [decide_eq_true (rfl : l = l)] at K4
  have K5 := Lib.hid (fun p q p' q' W h h' => sequal_calls p q l.length (bigN l) p' q' l.length (bigN l) W h h')
  rw [decide_eq_true (rfl : wordsI l.length (bigN l) = wordsI l.length (bigN l))] at K5
  have HBd := Lib.hid hbd
  obtain ⟨n, hnl⟩ : ∃ n, n = l.length := ⟨_, rfl⟩
  have HNl := Lib.hid hnl
  obtain ⟨B, hB⟩ : ∃ B, B = bigN l := ⟨_, rfl⟩
  rw [← hnl] at K2 K3 K4 K5 hl6
  rw [← hB] at K3 K4 K5
  clear hT hr hb hn hl hL0 hbd hbw hnl hB
  go_enter Tryd.func5, Tryd.ntmps5
  go_wp2_with (first
    | (go_at_call 10; refine (awake_calls w HT.out).mono ?_; rintro e w1 ⟨rfl, hN1⟩; have HN1 := Lib.hid hN1; have HC1 := Lib.hid (Kd.C_below HR0.out (hN1.below (fun _ _ h => h))); clear hN1)
    | (go_at_call 25; (with_reducible refine Calls.mono (K1.out _ HC1.out) ?_); rintro e w2 ⟨v, rfl, ho, hb⟩; obtain ⟨A1, c1, rfl, _, hC⟩ := Kd.R_reads ho; rw [← HNl.out] at ho hC; rw [← HNl.out]; have HO2 := Lib.hid ho; have HC2 := Lib.hid hC; have HN2 := Lib.hid (HN1.out.trans (Fr.of_below hb)); clear ho hb hC)
    | (go_at_call 25; (with_reducible refine Calls.mono (K2.out _ _ _ HC2.out) ?_); rintro e w3 ⟨v, rfl, ho, hb⟩; obtain ⟨A2, c2, rfl, _, hC⟩ := Kd.R_reads ho; rw [← HNl.out] at ho hC; rw [← HNl.out]; have HO3 := Lib.hid ho; have HC3 := Lib.hid hC; have HF3 := Lib.hid (Fr.of_below (S := fun _ => False) hb); clear ho hb hC)
    | (go_at_call 26; (with_reducible refine Calls.mono (K3.out _ _ _ HC3.out) ?_); rintro e w4 ⟨p, q, rfl, hp, hq, hS, hF⟩; have HS4 := Lib.hid hS; have HF4 := Lib.hid hF; clear hS hF)
    | (go_at_call 14; refine (scopy_calls p q n B _ HS4.out).mono ?_; rintro e w5 ⟨p', q', rfl, hp', hq', hS, hF⟩; have HD5 := Lib.hid hS; have HS5 := Lib.hid (HS4.out.nw hF (fun h => h) (fun h => h)); have HF5 := Lib.hid hF; clear hS hF)
    | (go_at_call 27; refine (K5.out p' q' p q _ HD5.out HS5.out).mono ?_; rintro e w6 ⟨rfl, hF⟩; have HD6 := Lib.hid (HD5.out.nw hF (fun h => h) (fun h => h)); have HS6 := Lib.hid (HS5.out.nw hF (fun h => h) (fun h => h)); have HF6 := Lib.hid hF; clear hF)
    | (go_at_call 19; (with_reducible refine Calls.mono (swords_calls p q n B _ HS6.out) ?_); rintro e w7 ⟨g1, cc1, cur1, rfl, hg1, hb1, hs1, ht1, hF⟩; have HW7 : Hid (WR w7 g1 n B) := Lib.hid ⟨cur1, hb1, hs1, ht1⟩; have HD7 := Lib.hid (HD6.out.nw hF (fun h => h) (fun h => h)); have HS7 := Lib.hid (HS6.out.nw hF (fun h => h) (fun h => h)); have HF7 := Lib.hid hF; clear hb1 hs1 ht1 hg1 hF)
    | (go_at_call 18; refine (K4.out g1 cc1 A1 c1 _ HW7.out (Kd.C_below HC2.out (((((HF3.out.trans HF4.out).trans HF5.out).trans HF6.out).trans HF7.out).below (fun _ _ h => h)))).mono ?_; rintro e w8 ⟨rfl, hF⟩; have HD8 := Lib.hid (HD7.out.nw hF (fun h => h) (fun h => h)); have HS8 := Lib.hid (HS7.out.nw hF (fun h => h) (fun h => h)); have HF8 := Lib.hid hF; clear hF)
    | (go_at_call 19; (with_reducible refine Calls.mono (swords_calls p q n B _ HS8.out) ?_); rintro e w9 ⟨go, cgo, cur9, rfl, hg9, hb9, hs9, ht9, hF⟩; have HD9 := Lib.hid (HD8.out.nw hF (fun h => h) (fun h => h)); have HS9 := Lib.hid (HS8.out.nw hF (fun h => h) (fun h => h)); have HF9 := Lib.hid hF; have HGo := Lib.hid hb9; have HGs := Lib.hid hs9; clear hb9 hs9 ht9 hF))
  have N39 : Nw w3 w9 := ((((HF4.out.trans HF5.out).trans HF6.out).trans HF7.out).trans HF8.out).trans HF9.out
  have N29 : Nw w2 w9 := HF3.out.trans N39
  have s38 : w3.heap.size ≤ w8.heap.size := ((((HF4.out.trans HF5.out).trans HF6.out).trans HF7.out).trans HF8.out).size
  have s34 : w3.heap.size ≤ w4.heap.size := HF4.out.size
  have s23 : w2.heap.size ≤ w3.heap.size := HF3.out.size
  have t1 := HS8.out.plt
  have t2 := HS8.out.qlt
  have t3 := HD8.out.plt
  have t4 := HD8.out.qlt
  obtain ⟨gm, m1, m2, m3, m4, m5, hgm⟩ : ∃ gm, w2.heap.size ≤ gm ∧ gm ≠ p ∧ gm ≠ q ∧ gm ≠ p' ∧ gm ≠ q' ∧ (0 < n → gm ≠ go ∧ A2 = some ⟨gm, 0, none⟩ ∧ ∃ cur : Array Value, w9.heap[gm]? = some (.cells cur 48 (0, 0)) ∧ n ≤ cur.size ∧ ∀ j, 0 ≤ j → j < n → ∃ x : Int, cur[j]? = some (.int .u64 x)) := by
    by_cases h0 : 0 < n
    · obtain ⟨gm, cur, h1, h2, h3, h4, h5⟩ := R_block HO3.out (by rw [← HNl.out]; exact h0)
      have h6 := blk_lt h3
      exact ⟨gm, h2, by omega, by omega, by omega, by omega, fun _ => ⟨by omega, h1, cur, N39.blk h3 (fun h => h), by rw [HNl.out]; exact h4, fun j _ hj => ⟨_, h5 j (by rw [← HNl.out]; exact hj)⟩⟩⟩
    · exact ⟨go, by omega, by omega, by omega, by omega, by omega, fun h => absurd h h0⟩
  have g1' : go ≠ p := by omega
  have g2' : go ≠ q := by omega
  have g3' : go ≠ p' := by omega
  have g4' : go ≠ q' := by omega
  have g5' : w2.heap.size ≤ go := by omega
  have g6' : w2.heap.size ≤ q' := by omega
  have g7' : p ≠ q' := by have := HS4.out.plt; omega
  have g8' : q ≠ q' := by have := HS4.out.qlt; omega
  have HGm := Lib.hid (fun h => (hgm h).2.2)
  have HGne := Lib.hid (fun h => (hgm h).1)
  have HGa := Lib.hid (fun h => (hgm h).2.1)
  have HGo2 : Hid (∃ cur : Array Value, w9.heap[go]? = some (.cells cur 48 (0, 0)) ∧ n ≤ cur.size) := Lib.hid ⟨cur9, HGo.out, HGs.out⟩
  have HQ9 : Hid (Fr (fun k => w2.heap.size ≤ k) w2 w9) := Lib.hid (nw_any N29)
  have HRk : Hid (∀ W, Fr (fun k => w2.heap.size ≤ k) w2 W → Kd.C (Kd.int .u64) W A1 n l) := Lib.hid (fun W hW => by
    have hR := R_keep64 (W1 := W) HO2.out (fun g cs m _ hb => hW.blk hb (by have := blk_lt hb; omega))
    obtain ⟨A', c', he, _, hC⟩ := Kd.R_reads hR
    cases he
    rw [HNl.out]; exact hC)
  have HDne := Lib.hid (⟨m2, m3, m4, m5, g1', g2', g3', g4'⟩ : gm ≠ p ∧ gm ≠ q ∧ gm ≠ p' ∧ gm ≠ q' ∧ go ≠ p ∧ go ≠ q ∧ go ≠ p' ∧ go ≠ q')
  clear hgm N39 N29 s38 s34 s23 t1 t2 t3 t4 m2 m3 m4 m5 g1' g2' g3' g4' hp hq hp' hq' hg9 HGo HGs HC1 HC2 HC3
  go_loopw [10, 43] (fun _ ii wr => ∃ k : Nat, k ≤ n ∧ ii = .int .i64 k ∧ Hid (0 < n → ∃ cur : Array Value, wr.heap[gm]? = some (.cells cur 48 (0, 0)) ∧ n ≤ cur.size ∧ ∀ j, k ≤ j → j < n → ∃ x : Int, cur[j]? = some (.int .u64 x)) ∧ Hid (∃ cur : Array Value, wr.heap[go]? = some (.cells cur 48 (0, 0)) ∧ n ≤ cur.size) ∧ Hid (Fr (Two gm go) w9 wr)) (fun _ ii _ => n - (intOf ii).toNat)
  case atStart => exact ⟨0, Nat.zero_le _, rfl, HGm, HGo2, Lib.hid (Fr.refl _ _)⟩
  case round =>
    obtain ⟨k, hk, rfl, HM, HO, HF⟩ := hrel
    by_cases hlt : k < n
    · have hA := HGa.out (by omega)
      subst hA
      have hne := HGne.out (by omega)
      have hne' : go ≠ gm := Ne.symm hne
      obtain ⟨cur, hb1, hs1, hx1⟩ := HM.out (by omega)
      obtain ⟨x, hx⟩ := hx1 k (Nat.le_refl _) hlt
      obtain ⟨cur2, hb2, hs2⟩ := HO.out
      have HB1 := Lib.hid hb1
      have HB2 := Lib.hid hb2
      have HX1 := Lib.hid hx1
      have c1 := (blk_cell hb1 k).trans hx
      have f1 := blk_frozen hb1 k
      have f2 := blk_frozen hb2 k
      have hk2 : k < cur2.size := by omega
      have c2 := (blk_cell hb2 k).trans (Array.getElem?_eq_getElem hk2)
      obtain ⟨v2, hv2⟩ : ∃ v, v = cur2[k] := ⟨_, rfl⟩
      rw [← hv2] at c2
      clear hb1 hb2 hx1 hx hv2
      go_wp2
      go_roundw
      case rel => exact ⟨k + 1, by omega, by go_num, Lib.hid (fun _ => ⟨_, blk_far (p := ⟨go, k, none⟩) (blk_set HB1.out k _) hne _, by simpa using hs1, fun j hj hjn => by
        obtain ⟨y, hy⟩ := HX1.out j (by omega) hjn
        exact ⟨y, by rw [Array.getElem?_setIfInBounds_ne (by omega)]; exact hy⟩⟩), Lib.hid ⟨_, blk_set (blk_far (p := ⟨gm, k, none⟩) HB2.out hne' _) k _, by simpa using hs2⟩, Lib.hid ((HF.out.set (b := gm) (.inl rfl) k _).set (b := go) (.inr rfl) k _)⟩
      case measure => simp [intOf]; omega
    · obtain ⟨d1, d2, d3, d4, d5, d6, d7, d8⟩ := HDne.out
      have HS10 := Lib.hid (HS9.out.nw HF.out (fun h => by rcases h with h | h; exact d1 h.symm; exact d5 h.symm) (fun h => by rcases h with h | h; exact d2 h.symm; exact d6 h.symm))
      have HD10 := Lib.hid (HD9.out.nw HF.out (fun h => by rcases h with h | h; exact d3 h.symm; exact d7 h.symm) (fun h => by rcases h with h | h; exact d4 h.symm; exact d8 h.symm))
      have HQ10 := Lib.hid (HQ9.out.trans_of HF.out (fun y hy h => by rcases h with h | h; (rw [h]; exact m1); (rw [h]; exact g5')))
      clear HM HO HF d1 d2 d3 d4 d5 d6 d7 d8
      go_wp2_with (first
        | (go_at_call 17; refine (fill_calls (some ⟨p', 0, none⟩) q' n B 0 1000 _ (.inl ⟨p', rfl, HD10.out⟩)).mono ?_; rintro e w11 ⟨rfl, hD, hF⟩; have HD11 := Lib.hid hD; have HS11 := Lib.hid (HS10.out.nw hF (fun h => g7' h) (fun h => g8' h)); have HQ11 := Lib.hid (HQ10.out.trans_of hF (fun y hy h => by have : y = q' := h; omega)); clear hD hF)
        | (go_at_call 28; refine (sset_calls (some ⟨p', 0, none⟩) q' n _ i _ HD11.out).mono ?_; rintro e w12 ⟨rfl, hD, hF⟩; have HS12 := Lib.hid (HS11.out.nw hF (fun h => g7' h) (fun h => g8' h)); have HQ12 := Lib.hid (HQ11.out.trans_of hF (fun y hy h => by have : y = q' := h; omega)); clear hD hF)
        | (go_at_call 19; refine (swords_calls p q n B _ HS12.out).mono ?_; rintro e w13 ⟨g3, cg3, cur3, rfl, hg3, hb3, hs3, ht3, hF⟩; have HW13 : Hid (WR w13 g3 n B) := Lib.hid ⟨cur3, hb3, hs3, ht3⟩; have HQ13 := Lib.hid (HQ12.out.trans (nw_any hF)); clear hb3 hs3 ht3 hF)
        | (go_at_call 18; refine (K4.out g3 cg3 A1 c1 _ HW13.out (HRk.out _ HQ13.out)).mono ?_; rintro e w14 ⟨rfl, hF⟩; have HQ14 := Lib.hid (HQ13.out.trans (nw_any hF)); clear hF))
      go_ret
      exact ⟨rfl, HN2.out.trans_of HQ14.out (fun y hy h => by have h2 : w2.heap.size ≤ y := h; have h3 := HN2.out.size; omega)⟩

end Go.Proofs.YtacaeahijecfeaaDoor
