/-
  The walk of the law TrieFull.
-/
import Derived.Test.YtnhdcefoigmjpaaDoorTrRefs2

namespace Go.Proofs.YtnhdcefoigmjpaaDoor
open Go.RowKit Go.Proofs.YtnhdcefoigmjpaaDoorW.PrintWords Go.Proofs.YtnhdcefoigmjpaaDoorW.PrintMore
attribute [local go_sem] max2_int min2_int max_two min_two
set_option linter.unusedVariables false
set_option linter.unusedSimpArgs false
set_option maxRecDepth 100000 in
set_option maxHeartbeats 8000000 in
theorem full_calls (A0 : Option Addr) (c0 : Nat) (l0 : List Int) (lim : Nat) (w : World) (hr : Kd.C (Kd.int .u64) w A0 l0.length l0) (hc0 : l0.length ≤ c0) (hb : ∀ a, a ∈ l0 → 0 ≤ a ∧ a ≤ 18446744073709551615) (hn : l0.length ≤ 140737488351232) (hlim : lim ≤ 255) (hT : Tb w) :
    Calls Tryd.prog 4 #[.slice A0 l0.length c0, .int .u8 (lim : Nat)] w fun e w' => e = .returned (.bool true) ∧ Nw w w' := by
  obtain ⟨ks, hks⟩ : ∃ ks, ks = (l0.map Int.toNat).take 60 := ⟨_, rfl⟩
  have hkl : ks.length ≤ 60 := by rw [hks, List.length_take]; omega
  have hkb : ∀ k, k ∈ ks → k < 18446744073709551616 := fun k hk => (keys_nat l0 hb).2 k (by rw [hks] at hk; exact List.mem_of_mem_take hk)
  have HW := Lib.hid (fun w' (hf : Nw w w') => by have := twords_calls A0 c0 l0 60 w' (C_nw hr hf) hc0 hb hn (by omega); rw [← hks] at this; exact this)
  have HT := Lib.hid hT
  have HAW := Lib.hid (tawake_calls w hT)
  have HKL : Hid (ks.length ≤ 60) := Lib.hid hkl
  have HKB := Lib.hid hkb
  have HLM := Lib.hid hlim
  have hlim' : (lim : Int) ≤ 255 := by omega
  clear hks hkb hr hb hT
  go_enter Tryd.func4, Tryd.ntmps4
  go_wp2_with (first
    | (go_at_call 9; refine HAW.out.mono ?_; rintro e w1 ⟨rfl, hf⟩; have HN1 := Lib.hid hf; clear hf)
    | (go_at_call 10; refine (tx_new lim _ (by have := HLM.out; omega)).mono ?_; rintro e w2 ⟨t, rfl, hX, hf⟩; have HX := Lib.hid hX; have HN2 := Lib.hid (HN1.out.trans hf); have hsz := hf.size; have hsB := HN1.out.size; clear hX hf)
    | (go_at_call 12; refine (HW.out _ HN2.out).mono ?_; rintro e w3 ⟨A3, c3, rfl, hR, hf⟩; have HR3 := Lib.hid hR; have HX := Lib.hid (HX.out.nw hf); have HN3 := Lib.hid (HN2.out.trans hf); have hsz := Nat.le_trans hsz hf.size; clear hR hf))
  go_loopw [7, 8, 10, 11, 24] (fun lv nv _ _ iv wr => ∃ (i n : Nat) (l' : List Nat) (A : Option Addr) (c : Nat), i ≤ ks.length ∧ n ≤ i ∧ lv = .slice A l'.length c ∧ nv = .int .i64 n ∧ iv = .int .i64 i ∧ Hid (Up l') ∧ Hid (used l' ≤ lim) ∧ Hid (l'.length ≤ i) ∧ Hid (∀ x, x ∈ l' → x < 18446744073709551616) ∧ Hid (Kd.R (Kd.int .u64) 31 wr 0 (fun _ => True) (.slice A l'.length c) (keysI l')) ∧ Hid (eachF lim [] ks = ((eachF lim l' (ks.drop i)).1, n + (eachF lim l' (ks.drop i)).2)) ∧ Hid (Nw w3 wr)) (fun _ _ _ _ iv _ => ks.length - (intOf iv).toNat)
  case atStart => exact ⟨0, 0, [], none, 0, by omega, by omega, rfl, rfl, rfl, Lib.hid List.Pairwise.nil, Lib.hid (by rw [used_nil]; omega), Lib.hid (Nat.le_refl _), Lib.hid (fun x hx => by cases hx), Lib.hid (Kd.R_nil _ _ _ _ _), Lib.hid (by simp), Lib.hid (Fr.refl _ _)⟩
  case round =>
    obtain ⟨i, n, l', A, c, hi, hni, rfl, rfl, rfl, HUP, HUL, HLL0, HBD, HRl, HEQ, HF⟩ := hrel
    have HLL : Hid (l'.length ≤ 60) := Lib.hid (by have := HLL0.out; omega)
    have HXr := Lib.hid (HX.out.nw HF.out)
    have HNr := Lib.hid (HN3.out.trans HF.out)
    have HRKr := Lib.hid (R_fr HR3.out HF.out (fun _ _ h => h))
    have hszr := Nat.le_trans hsz HF.out.size
    have hn60 : n ≤ 60 := by omega
    by_cases hlt : i < ks.length
    · obtain ⟨x, hx⟩ : ∃ x, ks[i]? = some x := ⟨_, List.getElem?_eq_getElem hlt⟩
      obtain ⟨g, hA, hcx⟩ := R_key HRKr.out hx
      subst hA
      have hdr : ks.drop i = x :: ks.drop (i + 1) := by
        rw [List.drop_eq_getElem_cons hlt]
        rw [List.getElem?_eq_getElem hlt] at hx
        simp only [Option.some.injEq] at hx
        rw [hx]
      have HXB : Hid (x < 18446744073709551616) := Lib.hid (HKB.out x (List.mem_of_getElem? hx))
      have HEQ2 := Lib.hid (by have := HEQ.out; rw [hdr] at this; exact this)
      clear hx hdr
      by_cases hm : x ∈ l'
      · have HAD := Lib.hid (add_there A c l' x wr HUP.out HRl.out (by have := HLL.out; omega) hm)
        have HTF := Lib.hid (fun w' h => tref_calls A c l' w' h (by have := HLL.out; omega) HBD.out)
        obtain ⟨u, hu⟩ : ∃ u, u = used l' := ⟨_, rfl⟩
        rw [← hu] at HTF
        have hul : ¬ (lim : Int) < (u : Int) := by rw [hu]; have := HUL.out; omega
        have HEQ3 : Hid (eachF lim [] ks = ((eachF lim l' (ks.drop (i + 1))).1, n + (eachF lim l' (ks.drop (i + 1))).2)) := Lib.hid (by have := HEQ2.out; rw [eachF, if_pos hm] at this; exact this)
        clear hu hm
        go_wp2_with (first
          | (go_at_call 17; refine HAD.out.mono ?_; rintro e w4 ⟨rfl, hf⟩; have HF := Lib.hid (HF.out.trans hf); have HRl := Lib.hid (R_fr HRl.out hf (fun _ _ h => h)); clear hf)
          | (go_at_call 18; refine (HTF.out _ HRl.out).mono ?_; rintro e w5 ⟨rfl, hf⟩; have HF := Lib.hid (HF.out.trans hf); have HRl := Lib.hid (R_fr HRl.out hf (fun _ _ h => h)); clear hf))
        go_roundw
        case rel => exact ⟨i + 1, n, l', A, c, by omega, by omega, rfl, rfl, by go_num, HUP, HUL, Lib.hid (by have := HLL0.out; omega), HBD, HRl, HEQ3, HF⟩
        case measure => simp [intOf]; omega
      · have had := add_new A c l' x wr HUP.out HRl.out (by have := HLL.out; omega) hm
        obtain ⟨m, hmm⟩ : ∃ m, m = insS l' x := ⟨_, rfl⟩
        rw [← hmm] at had
        have HAD := Lib.hid had
        have hml : m.length = l'.length + 1 := by rw [hmm, len_insS]
        have hmlt : (l'.length : Int) < (m.length : Int) := by omega
        have HML := Lib.hid hml
        have HMU : Hid (Up m) := Lib.hid (by rw [hmm]; exact up_insS HUP.out hm)
        have HMB : Hid (∀ y, y ∈ m → y < 18446744073709551616) := Lib.hid (fun y hy => by
          rw [hmm] at hy
          rcases (mem_insS l' x y).1 hy with rfl | h
          · exact HXB.out
          · exact HBD.out y h)
        have HTF := Lib.hid (fun A c w' h => tref_calls A c m w' h (by have := HLL.out; omega) HMB.out)
        obtain ⟨u, hu⟩ : ∃ u, u = used m := ⟨_, rfl⟩
        rw [← hu] at HTF
        have HUE := Lib.hid hu
        have HMM := Lib.hid hmm
        have HNM := Lib.hid hm
        clear hu hm had hml hmm
        by_cases huc : u ≤ lim
        · have hul : ¬ (lim : Int) < (u : Int) := by omega
          have hnb : (n : Int) + 1 ≤ 100 := by omega
          have HEQ3 : Hid (eachF lim [] ks = ((eachF lim m (ks.drop (i + 1))).1, (n + 1) + (eachF lim m (ks.drop (i + 1))).2)) := Lib.hid (by
            have h1 := HEQ2.out
            rw [eachF, if_neg HNM.out, ← HMM.out, ← HUE.out, if_pos huc] at h1
            rw [h1]
            simp only [Prod.mk.injEq, true_and]; omega)
          go_wp2_with (first
            | (go_at_call 17; refine HAD.out.mono ?_; rintro e w4 ⟨A', c', rfl, hR, hf⟩; have HF := Lib.hid (HF.out.trans hf); have HRm := Lib.hid (R_base0 hR); clear hf hR)
            | (go_at_call 18; refine (HTF.out _ _ _ HRm.out).mono ?_; rintro e w5 ⟨rfl, hf⟩; have HF := Lib.hid (HF.out.trans hf); have HRm := Lib.hid (R_fr HRm.out hf (fun _ _ h => h)); clear hf))
          go_roundw
          case rel => exact ⟨i + 1, n + 1, m, A', c', by omega, by omega, rfl, by go_num, by go_num, HMU, Lib.hid (by rw [← HUE.out]; exact huc), Lib.hid (by have := HLL0.out; have := HML.out; omega), HMB, HRm, HEQ3, HF⟩
          case measure => simp [intOf]; omega
        · have hul : (lim : Int) < (u : Int) := by omega
          have HEQ3 : Hid (eachF lim [] ks = (l', n)) := Lib.hid (by
            have h1 := HEQ2.out
            rw [eachF, if_neg HNM.out, ← HMM.out, ← HUE.out, if_neg huc] at h1
            rw [h1]; rfl)
          have HEE := Lib.hid (fun B t v w' (h : TX w' B t [] lim) (hR : Kd.R (Kd.int .u64) 31 w' 0 (fun _ => True) v (keysI ks)) (hB : B ≤ w'.heap.size) => (by have := each_calls B t lim [] ks v w' h hR hB HKB.out (by have := HKL.out; simp; omega); rw [HEQ3.out] at this; exact this)); have HSM := Lib.hid (fun B t v w' (h : TX w' B t l' lim) (hT : Tb w') (hR : Kd.R (Kd.int .u64) 31 w' 0 (fun _ => True) v (keysI l')) => show Calls Tryd.prog 16 #[.pointer (some ⟨t, 0, none⟩), v] w' (fun e w'' => e = .returned (.bool true) ∧ TX w'' B t l' lim ∧ FT B w' w'') from (by have := same_calls B t lim l' l' v w' h hT hR (by have := HLL.out; have := HKL.out; omega); rw [decide_eq_true (show l'.take 100000 = l' ∧ l'.length = l'.length from ⟨List.take_of_length_le (by have := HLL.out; have := HKL.out; omega), rfl⟩)] at this; exact this)); have HUS := Lib.hid (fun B t w' (h : TX w' B t l' lim) => tx_used B t lim l' w' h); have HTL := Lib.hid (fun A c w' h => tref_calls A c l' w' h (by have := HLL.out; have := HKL.out; omega) HBD.out); obtain ⟨ul, hul0⟩ : ∃ u, u = used l' := ⟨_, rfl⟩; rw [← hul0] at HUS HTL; clear hul0
          go_wp2_with (first
            | (go_at_call 17; refine HAD.out.mono ?_; rintro e w4 ⟨A', c', rfl, hR, hf⟩; have HF := Lib.hid (HF.out.trans hf); have HRl := Lib.hid (R_fr HRl.out hf (fun _ _ h => h)); have HRm := Lib.hid (R_base0 hR); clear hf hR)
            | (go_at_call 18; (with_reducible refine Calls.mono (HTF.out _ _ _ HRm.out) ?_); rintro e w5 ⟨rfl, hf⟩; have HF := Lib.hid (HF.out.trans hf); have HRl := Lib.hid (R_fr HRl.out hf (fun _ _ h => h)); clear hf)
              | (go_at_call 13; refine (HEE.out w1.heap.size t _ _ (HX.out.nw HF.out) (R_fr HR3.out HF.out (fun _ _ h => h)) (Nat.le_trans hsz HF.out.size)).mono ?_; rintro e w5 ⟨rfl, hX, hf⟩; have HXe := Lib.hid hX; have HRe := Lib.hid (R_ft HRl.out hf); have HNe := Lib.hid ((HN3.out.trans HF.out).trans_of hf (fun q hq e => by have := e.1; omega)); clear hX hf)
              | (go_at_call 16; refine (HSM.out w1.heap.size t _ _ HXe.out (HT.out.step HNe.out) HRe.out).mono ?_; rintro e w9 ⟨rfl, hX, hf⟩; have HXe := Lib.hid hX; have HRe := Lib.hid (R_ft HRe.out hf); have HNe := Lib.hid (HNe.out.trans_of hf (fun q hq e => by have := e.1; omega)); clear hX hf)
              | (go_at_call 19; refine (HUS.out w1.heap.size t _ HXe.out).mono ?_; rintro e w' ⟨rfl, rfl⟩)
              | (go_at_call 18; (with_reducible refine Calls.mono (HTL.out _ _ _ HRe.out) ?_); rintro e w10 ⟨rfl, hf⟩; have HNe := Lib.hid (HNe.out.trans hf); clear hf))
          go_ret
          exact ⟨rfl, HNe.out⟩
    · have HEQ3 : Hid (eachF lim [] ks = (l', n)) := Lib.hid (by
        have h1 := HEQ.out
        rw [List.drop_of_length_le (by omega)] at h1
        rw [h1]; rfl)
      have HEE := Lib.hid (fun B t v w' (h : TX w' B t [] lim) (hR : Kd.R (Kd.int .u64) 31 w' 0 (fun _ => True) v (keysI ks)) (hB : B ≤ w'.heap.size) => (by have := each_calls B t lim [] ks v w' h hR hB HKB.out (by have := HKL.out; simp; omega); rw [HEQ3.out] at this; exact this)); have HSM := Lib.hid (fun B t v w' (h : TX w' B t l' lim) (hT : Tb w') (hR : Kd.R (Kd.int .u64) 31 w' 0 (fun _ => True) v (keysI l')) => show Calls Tryd.prog 16 #[.pointer (some ⟨t, 0, none⟩), v] w' (fun e w'' => e = .returned (.bool true) ∧ TX w'' B t l' lim ∧ FT B w' w'') from (by have := same_calls B t lim l' l' v w' h hT hR (by have := HLL.out; have := HKL.out; omega); rw [decide_eq_true (show l'.take 100000 = l' ∧ l'.length = l'.length from ⟨List.take_of_length_le (by have := HLL.out; have := HKL.out; omega), rfl⟩)] at this; exact this)); have HUS := Lib.hid (fun B t w' (h : TX w' B t l' lim) => tx_used B t lim l' w' h); have HTL := Lib.hid (fun A c w' h => tref_calls A c l' w' h (by have := HLL.out; have := HKL.out; omega) HBD.out); obtain ⟨ul, hul0⟩ : ∃ u, u = used l' := ⟨_, rfl⟩; rw [← hul0] at HUS HTL; clear hul0
      go_wp2_with (first
              | (go_at_call 13; refine (HEE.out w1.heap.size t _ _ (HX.out.nw HF.out) (R_fr HR3.out HF.out (fun _ _ h => h)) (Nat.le_trans hsz HF.out.size)).mono ?_; rintro e w5 ⟨rfl, hX, hf⟩; have HXe := Lib.hid hX; have HRe := Lib.hid (R_ft HRl.out hf); have HNe := Lib.hid ((HN3.out.trans HF.out).trans_of hf (fun q hq e => by have := e.1; omega)); clear hX hf)
              | (go_at_call 16; refine (HSM.out w1.heap.size t _ _ HXe.out (HT.out.step HNe.out) HRe.out).mono ?_; rintro e w9 ⟨rfl, hX, hf⟩; have HXe := Lib.hid hX; have HRe := Lib.hid (R_ft HRe.out hf); have HNe := Lib.hid (HNe.out.trans_of hf (fun q hq e => by have := e.1; omega)); clear hX hf)
              | (go_at_call 19; refine (HUS.out w1.heap.size t _ HXe.out).mono ?_; rintro e w' ⟨rfl, rfl⟩)
              | (go_at_call 18; (with_reducible refine Calls.mono (HTL.out _ _ _ HRe.out) ?_); rintro e w10 ⟨rfl, hf⟩; have HNe := Lib.hid (HNe.out.trans hf); clear hf))
      go_ret
      exact ⟨rfl, HNe.out⟩
theorem full_row (A0 : Option Addr) (c0 : Nat) (l0 : List Int) (x1 : Int) (w : World) (hr : Kd.C (Kd.int .u64) w A0 l0.length l0) (hc0 : l0.length ≤ c0) (hb : ∀ a, a ∈ l0 → 0 ≤ a ∧ a ≤ 18446744073709551615) (hn : l0.length ≤ 140737488351232) (wf1 : (Lit.int .u8 x1).wf = true) (hT : Tb w) :
    Calls Tryd.prog 4 #[.slice A0 l0.length c0, .int .u8 x1] w fun e w' => e = .returned (.bool true) ∧ Nw w w' := by
  have hx := u8_bd wf1
  have := full_calls A0 c0 l0 x1.toNat w hr hc0 hb hn (by omega) hT
  rw [show ((x1.toNat : Nat) : Int) = x1 by omega] at this
  exact this
end Go.Proofs.YtnhdcefoigmjpaaDoor
