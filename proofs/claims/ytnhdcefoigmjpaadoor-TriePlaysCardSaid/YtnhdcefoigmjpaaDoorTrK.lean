/-
  Merged by merge.py: TrLaw5 TrClear TrDo TrDo2.
-/
import Derived.Test.YtnhdcefoigmjpaaDoorTrDrop
import Derived.Test.YtnhdcefoigmjpaaDoorTrI
import Derived.Lib.SliceRun
/-
  The walk of the law TrieEmpties.
-/

namespace Go.Proofs.YtnhdcefoigmjpaaDoor
open Go.RowKit Go.Proofs.YtnhdcefoigmjpaaDoorW.PrintWords Go.Proofs.YtnhdcefoigmjpaaDoorW.PrintMore
attribute [local go_sem] max2_int min2_int max_two min_two
set_option linter.unusedVariables false
set_option linter.unusedSimpArgs false
theorem tx_min (B t lim : Nat) (l : List Nat) (w : World) (h : TX w B t l lim) :
    Calls Tryd.prog 27 #[.pointer (some ⟨t, 0, none⟩)] w fun e w' => e = .returned (.tuple #[.int .u64 (l.headD 0 : Nat), .bool (decide (l ≠ []))]) ∧ TX w' B t l lim ∧ FT B w w' := by
  obtain ⟨m, p, ad, rows, free, cv, fv, root, tk, h, hm, hb⟩ := h
  refine (tmin_calls t m p lim root l ad rows free cv fv tk w h hm).mono ?_
  rintro e w' ⟨rfl, h1, ⟨tk', _, _, h2⟩, h3⟩
  exact ⟨rfl, ⟨m, p, ad, rows, free, cv, fv, root, tk', h1, h2, hb⟩, FT.of_one hm hb.2.1 h3⟩
theorem tx_max (B t lim : Nat) (l : List Nat) (w : World) (h : TX w B t l lim) :
    Calls Tryd.prog 28 #[.pointer (some ⟨t, 0, none⟩)] w fun e w' => e = .returned (.tuple #[.int .u64 (l.getLastD 0 : Nat), .bool (decide (l ≠ []))]) ∧ TX w' B t l lim ∧ FT B w w' := by
  obtain ⟨m, p, ad, rows, free, cv, fv, root, tk, h, hm, hb⟩ := h
  refine (tmax_calls t m p lim root l ad rows free cv fv tk w h hm).mono ?_
  rintro e w' ⟨rfl, h1, ⟨tk', _, _, h2⟩, h3⟩
  exact ⟨rfl, ⟨m, p, ad, rows, free, cv, fv, root, tk', h1, h2, hb⟩, FT.of_one hm hb.2.1 h3⟩
def lenOf : Value → Nat
  | .slice _ n _ => n
  | _ => 0
theorem tmod_nat (a b : Nat) : Int.tmod (a : Int) (b : Int) = ((a % b : Nat) : Int) := by
  rw [Int.tmod_eq_emod_of_nonneg (by omega)]; rfl
set_option maxRecDepth 100000 in
set_option maxHeartbeats 8000000 in
theorem empties_calls (A0 : Option Addr) (c0 : Nat) (l0 : List Int) (A1 : Option Addr) (c1 : Nat) (l1 : List Int) (w : World) (hr : Kd.C (Kd.int .u64) w A0 l0.length l0) (hc0 : l0.length ≤ c0) (hb : ∀ a, a ∈ l0 → 0 ≤ a ∧ a ≤ 18446744073709551615) (hn : l0.length ≤ 140737488351232)
    (hr1 : Kd.C (Kd.int .u8) w A1 l1.length l1) (hc1 : l1.length ≤ c1) (hb1 : ∀ a, a ∈ l1 → 0 ≤ a ∧ a ≤ 255) (hn1 : l1.length ≤ 140737488351232) (hT : Tb w) :
    Calls Tryd.prog 6 #[.slice A0 l0.length c0, .slice A1 l1.length c1] w fun e w' => e = .returned (.bool true) ∧ Nw w w' := by
  have hg : 0 < w.heap.size := World.block_lt_of_cell? w _ (hT 0 (by decide))
  obtain ⟨ks, hks⟩ : ∃ ks, ks = (l0.map Int.toNat).take 60 := ⟨_, rfl⟩
  have hkl : ks.length ≤ 60 := by rw [hks, List.length_take]; omega
  have hkb : ∀ k, k ∈ ks → k < 18446744073709551616 := fun k hk => (keys_nat l0 hb).2 k (by rw [hks] at hk; exact List.mem_of_mem_take hk)
  obtain ⟨L, hL⟩ : ∃ L, L = ofN ks := ⟨_, rfl⟩
  have hLu : Up L := by rw [hL]; exact ofN_up ks [] List.Pairwise.nil
  have hLl : L.length ≤ 60 := by rw [hL]; have := ofN_len ks []; simp only [List.length_nil] at this; exact Nat.le_trans this (by omega)
  have hLb : ∀ k, k ∈ L → k < 18446744073709551616 := fun k hk => by
    rw [hL] at hk
    rcases (mem_ofN ks k []).1 hk with h | h
    · exact hkb k h
    · cases h
  have HW := Lib.hid (fun w' (hf : Nw w w') => by have := twords_calls A0 c0 l0 60 w' (C_nw hr hf) hc0 hb hn (by omega); rw [← hks] at this; exact this)
  have HO := Lib.hid (fun A c w' h => by have := of_calls A c ks w' h (by omega); rw [← hL] at this; exact this)
  have HT := Lib.hid hT
  have HAW := Lib.hid (tawake_calls w hT)
  have HLU := Lib.hid hLu
  have HLB := Lib.hid hLb
  have HC1 := Lib.hid hr1
  have HB1 := Lib.hid hb1
  clear hks hkb hkl hL hLu hLb hr hb hT hr1 hb1
  go_enter Tryd.func6, Tryd.ntmps6
  go_wp2_with (first
    | (go_at_call 9; refine HAW.out.mono ?_; rintro e w1 ⟨rfl, hf⟩; have HN1 := Lib.hid hf; clear hf)
    | (go_at_call 10; refine (tx_new 200000 _ (by omega)).mono ?_; rintro e w2 ⟨t, rfl, hX, hf⟩; have HX := Lib.hid hX; have HN2 := Lib.hid (HN1.out.trans hf); have hsz := hf.size; have hsB := HN1.out.size; clear hX hf)
    | (go_at_call 12; refine (HW.out _ HN2.out).mono ?_; rintro e w3 ⟨A3, c3, rfl, hR, hf⟩; have HR3 := Lib.hid hR; have HX := Lib.hid (HX.out.nw hf); have HN3 := Lib.hid (HN2.out.trans hf); have hsz := Nat.le_trans hsz hf.size; clear hR hf)
    | (go_at_call 11; refine (HO.out A3 c3 _ HR3.out).mono ?_; rintro e w4 ⟨A4, c4, rfl, hR, hf⟩; have HR4 := Lib.hid hR; have HX4 := Lib.hid (HX.out.nw hf); have HN4 := Lib.hid (HN3.out.trans hf); have hsz := Nat.le_trans hsz hf.size; clear hR hf HX))
  have HG1 : Hid (0 < w1.heap.size) := Lib.hid (Nat.lt_of_lt_of_le hg hsB)
  go_loopw [9, 28] (fun _ iv wr => ∃ i : Nat, i ≤ L.length ∧ iv = .int .i64 i ∧ Hid (TX wr w1.heap.size t (L.take i) 200000) ∧ Hid (FT w1.heap.size w4 wr)) (fun _ iv _ => L.length - (intOf iv).toNat)
  case atStart => exact ⟨0, Nat.zero_le _, rfl, HX4, Lib.hid (FT.refl _ _)⟩
  case round =>
    obtain ⟨i, hi, rfl, HX, HF⟩ := hrel
    by_cases hlt : i < L.length
    · obtain ⟨k, hk⟩ : ∃ k, L[i]? = some k := ⟨_, List.getElem?_eq_getElem hlt⟩
      obtain ⟨g, hA, hcx⟩ := R_key (R_ft HR4.out HF.out) hk
      subst hA
      have htk : L.take (i + 1) = L.take i ++ [k] := by
        rw [List.take_add_one, hk]; rfl
      have hup1 : Up (L.take (i + 1)) := List.Pairwise.sublist (List.take_sublist _ _) HLU.out
      rw [htk] at hup1
      have hp := List.pairwise_append.1 hup1
      have hltk : ∀ x, x ∈ L.take i → x < k := fun x hx => hp.2.2 x hx k (List.mem_singleton.2 rfl)
      have hnm : k ∉ L.take i := fun h => absurd (hltk k h) (Nat.lt_irrefl _)
      have hins := tx_insert w1.heap.size t 200000 (L.take i) wr HX.out (Nat.le_trans hsz HF.out.size) k (HLB.out k (List.mem_of_getElem? hk)) (by rw [List.length_take]; omega)
      unfold insE at hins
      have hus := used_le (L.take i ++ [k]).length (L.take i ++ [k]) rfl hup1
      have hus2 : used (insS (L.take i) k) ≤ 200000 := by
        rw [ins_snoc hp.1 hltk]
        refine Nat.le_trans hus ?_
        rw [List.length_append, List.length_take]; simp; omega
      rw [if_neg hnm, if_pos hus2, ins_snoc hp.1 hltk, ← htk] at hins
      have HI := Lib.hid hins
      clear hins hus hus2 hnm hltk hp hup1 htk hk
      go_wp2_with (first
        | (go_at_call 23; refine HI.out.mono ?_; rintro e w5 ⟨rfl, hX, hf⟩; have HX := Lib.hid hX; have HF := Lib.hid (HF.out.trans hf); clear hX hf))
      go_roundw
      case rel => exact ⟨i + 1, by omega, by go_num, HX, HF⟩
      case measure => simp [intOf]; omega
    · obtain rfl : i = L.length := by omega
      have HXL : Hid (TX wr w1.heap.size t L 200000) := Lib.hid (by have := HX.out; rw [List.take_length] at this; exact this)
      have HRL := Lib.hid (R_ft HR4.out HF.out)
      obtain ⟨wo, hwo⟩ : ∃ wo, wo = wr := ⟨_, rfl⟩
      subst hwo
      have HFo := HF
      clear HX HF
      go_wp2
      go_loopw [7, 10, 11, 12] (fun lv iv _ _ wr => ∃ (i : Nat) (l' : List Nat) (A : Option Addr) (c : Nat), lv = .slice A l'.length c ∧ iv = .int .i64 i ∧ i + l'.length ≤ 60 ∧ Hid (Up l') ∧ Hid (∀ x, x ∈ l' → x < 18446744073709551616) ∧ Hid (Kd.R (Kd.int .u64) 31 wr 0 (fun _ => True) (.slice A l'.length c) (keysI l')) ∧ Hid (TX wr w1.heap.size t l' 200000) ∧ Hid (FT w1.heap.size w4 wr)) (fun lv _ _ _ _ => lenOf lv)
      case atStart => exact ⟨0, L, A4, c4, rfl, rfl, by omega, HLU, HLB, HRL, HXL, HFo⟩
      case round =>
        obtain ⟨i, l', A, c, rfl, rfl, hil, HUP, HBD, HRl, HX, HF⟩ := hrel
        by_cases h0 : 0 < l'.length
        · have h0' : (0 : Int) < (l'.length : Int) := by omega
          by_cases hio : i < l1.length
          · have hio' : (i : Int) < (l1.length : Int) := by omega
            have hCo := C_nw HC1.out (HN4.out.trans_of HF.out (fun q hq e => by have := e.1; omega))
            obtain ⟨ad, e1, hco⟩ := Kd.at_int hCo (i : Nat) (by omega) (by omega)
            obtain ⟨o, ho⟩ : ∃ o : Nat, rd l1 (i : Nat) = (o : Nat) := by
              have hm := List.getElem_mem (l := l1) (by simpa using hio)
              have := HB1.out _ hm
              refine ⟨(l1[i]).toNat, ?_⟩
              unfold rd
              rw [Int.toNat_natCast, List.getD_eq_getElem?_getD, List.getElem?_eq_getElem hio]
              show l1[i] = _
              omega
            rw [ho, Int.toNat_natCast] at hco
            subst e1
            have ho255 : (o : Int) ≤ 255 := by
              have hm := List.getElem_mem (l := l1) (by simpa using hio)
              have := HB1.out _ hm
              rw [← ho]
              unfold rd
              rw [Int.toNat_natCast, List.getD_eq_getElem?_getD, List.getElem?_eq_getElem hio]
              exact this.2
            have hln0 : ((l'.length : Int) == 0) = false := by rw [beq_eq_false_iff_ne]; omega
            obtain ⟨a, ha⟩ : ∃ a, a = o % l'.length := ⟨_, rfl⟩
            have hal : a < l'.length := by rw [ha]; exact Nat.mod_lt _ h0
            have htm : Int.tmod (o : Int) (l'.length : Int) = (a : Nat) := by rw [tmod_nat, ha]
            clear ha ho hCo
            obtain ⟨k, hk⟩ : ∃ k, l'[a]? = some k := ⟨_, List.getElem?_eq_getElem (by omega)⟩
            obtain ⟨gl, hA, hck⟩ := R_key HRl.out hk
            subst hA
            have hkm : k ∈ l' := List.mem_of_getElem? hk
            have hk64 := HBD.out k hkm
            have hdr := drop_there (some ⟨gl, 0, none⟩) c l' k wr HUP.out HRl.out (by omega) hkm
            have hd1 := fun w' (h : TX w' w1.heap.size t l' 200000) (hT : Tb w') (hs : w1.heap.size ≤ w'.heap.size) => tx_delete w1.heap.size t 200000 l' w' h hT HG1.out hs k hk64
            unfold delE at hd1
            simp only [if_pos hkm] at hd1
            have hkd : k ∉ dropS l' k := fun h => by rw [mem_dropS] at h; exact h.2 rfl
            have hd2 := fun w' (h : TX w' w1.heap.size t (dropS l' k) 200000) (hT : Tb w') (hs : w1.heap.size ≤ w'.heap.size) => tx_delete w1.heap.size t 200000 (dropS l' k) w' h hT HG1.out hs k hk64
            unfold delE at hd2
            simp only [if_neg hkd] at hd2
            have hha := fun w' (h : TX w' w1.heap.size t (dropS l' k) 200000) => tx_has w1.heap.size t 200000 (dropS l' k) w' h k hk64
            rw [decide_eq_false hkd] at hha
            have hml : (dropS l' k).length + 1 = l'.length := by
              have e := ins_drop HUP.out hkm
              have h2 := len_insS (dropS l' k) k
              rw [e] at h2; omega
            have HMU : Hid (Up (dropS l' k)) := Lib.hid (up_dropS HUP.out k)
            have HMB : Hid (∀ x, x ∈ dropS l' k → x < 18446744073709551616) := Lib.hid (fun x hx => HBD.out x ((mem_dropS l' k x).1 hx).1)
            obtain ⟨m, hm⟩ : ∃ m, m = dropS l' k := ⟨_, rfl⟩
            rw [← hm] at hdr hd1 hd2 hha hml HMU HMB
            have HSM := Lib.hid (fun v w' (h : TX w' w1.heap.size t m 200000) (hT : Tb w') (hR : Kd.R (Kd.int .u64) 31 w' 0 (fun _ => True) v (keysI m)) => show Calls Tryd.prog 16 #[.pointer (some ⟨t, 0, none⟩), v] w' (fun e w'' => e = .returned (.bool true) ∧ TX w'' w1.heap.size t m 200000 ∧ FT w1.heap.size w' w'') from (by have := same_calls w1.heap.size t 200000 m m v w' h hT hR (by omega); rw [decide_eq_true (show m.take 100000 = m ∧ m.length = m.length from ⟨List.take_of_length_le (by omega), rfl⟩)] at this; exact this))
            have HDR := Lib.hid hdr
            have HD1 := Lib.hid hd1
            have HD2 := Lib.hid hd2
            have HHA := Lib.hid hha
            have HML := Lib.hid hml
            have HNr := Lib.hid (HN4.out.trans_of HF.out (fun q hq e => by have := e.1; omega))
            have hszr : w1.heap.size ≤ wr.heap.size := Nat.le_trans hsz HF.out.size
            clear hdr hd1 hd2 hha hml hkm hkd hm hk hk64
            go_wp2_with (first
              | (go_at_call 24; refine HDR.out.mono ?_; rintro e w5 ⟨A', c', rfl, hR, hf⟩; have HX := Lib.hid (HX.out.nw hf); have HRm := Lib.hid (R_base0 hR); have HF := Lib.hid (HF.out.trans (FT.nw hf)); have HNr := Lib.hid (HNr.out.trans hf); have hszr := Nat.le_trans hszr hf.size; clear hR hf)
              | (go_at_call 25; (with_reducible refine Calls.mono (HD1.out _ HX.out (HT.out.step HNr.out) hszr) ?_); rintro e w6 ⟨rfl, hX, hf⟩; have HX := Lib.hid hX; have HRm := Lib.hid (R_ft HRm.out hf); have HF := Lib.hid (HF.out.trans hf); have HNr := Lib.hid (HNr.out.trans_of hf (fun q hq e => by have := e.1; omega)); have hszr := Nat.le_trans hszr (Fr.size hf); clear hX hf)
              | (go_at_call 25; (with_reducible refine Calls.mono (HD2.out _ HX.out (HT.out.step HNr.out) hszr) ?_); rintro e w7 ⟨rfl, hX, hf⟩; have HX := Lib.hid hX; have HRm := Lib.hid (R_ft HRm.out hf); have HF := Lib.hid (HF.out.trans hf); have HNr := Lib.hid (HNr.out.trans_of hf (fun q hq e => by have := e.1; omega)); clear hX hf)
              | (go_at_call 26; refine (HHA.out _ HX.out).mono ?_; rintro e w8 ⟨rfl, hX, hf⟩; have HX := Lib.hid hX; have HRm := Lib.hid (R_ft HRm.out hf); have HF := Lib.hid (HF.out.trans hf); have HNr := Lib.hid (HNr.out.trans_of hf (fun q hq e => by have := e.1; omega)); clear hX hf)
              | (go_at_call 16; refine (HSM.out _ _ HX.out (HT.out.step HNr.out) HRm.out).mono ?_; rintro e w9 ⟨rfl, hX, hf⟩; have HX := Lib.hid hX; have HRm := Lib.hid (R_ft HRm.out hf); have HF := Lib.hid (HF.out.trans hf); clear hX hf))
            go_roundw
            case rel => exact ⟨i + 1, m, A', c', rfl, by go_num, by have := HML.out; omega, HMU, HMB, HRm, HX, HF⟩
            case measure => (have := HML.out; simp only [lenOf]; omega)
          · have hio' : ¬ (i : Int) < (l1.length : Int) := by omega
            obtain ⟨k, hk⟩ : ∃ k, l'[0]? = some k := ⟨_, List.getElem?_eq_getElem (by omega)⟩
            obtain ⟨gl, hA, hck⟩ := R_key HRl.out hk
            subst hA
            have hkm : k ∈ l' := List.mem_of_getElem? hk
            have hk64 := HBD.out k hkm
            have hdr := drop_there (some ⟨gl, 0, none⟩) c l' k wr HUP.out HRl.out (by omega) hkm
            have hd1 := fun w' (h : TX w' w1.heap.size t l' 200000) (hT : Tb w') (hs : w1.heap.size ≤ w'.heap.size) => tx_delete w1.heap.size t 200000 l' w' h hT HG1.out hs k hk64
            unfold delE at hd1
            simp only [if_pos hkm] at hd1
            have hkd : k ∉ dropS l' k := fun h => by rw [mem_dropS] at h; exact h.2 rfl
            have hd2 := fun w' (h : TX w' w1.heap.size t (dropS l' k) 200000) (hT : Tb w') (hs : w1.heap.size ≤ w'.heap.size) => tx_delete w1.heap.size t 200000 (dropS l' k) w' h hT HG1.out hs k hk64
            unfold delE at hd2
            simp only [if_neg hkd] at hd2
            have hha := fun w' (h : TX w' w1.heap.size t (dropS l' k) 200000) => tx_has w1.heap.size t 200000 (dropS l' k) w' h k hk64
            rw [decide_eq_false hkd] at hha
            have hml : (dropS l' k).length + 1 = l'.length := by
              have e := ins_drop HUP.out hkm
              have h2 := len_insS (dropS l' k) k
              rw [e] at h2; omega
            have HMU : Hid (Up (dropS l' k)) := Lib.hid (up_dropS HUP.out k)
            have HMB : Hid (∀ x, x ∈ dropS l' k → x < 18446744073709551616) := Lib.hid (fun x hx => HBD.out x ((mem_dropS l' k x).1 hx).1)
            obtain ⟨m, hm⟩ : ∃ m, m = dropS l' k := ⟨_, rfl⟩
            rw [← hm] at hdr hd1 hd2 hha hml HMU HMB
            have HSM := Lib.hid (fun v w' (h : TX w' w1.heap.size t m 200000) (hT : Tb w') (hR : Kd.R (Kd.int .u64) 31 w' 0 (fun _ => True) v (keysI m)) => show Calls Tryd.prog 16 #[.pointer (some ⟨t, 0, none⟩), v] w' (fun e w'' => e = .returned (.bool true) ∧ TX w'' w1.heap.size t m 200000 ∧ FT w1.heap.size w' w'') from (by have := same_calls w1.heap.size t 200000 m m v w' h hT hR (by omega); rw [decide_eq_true (show m.take 100000 = m ∧ m.length = m.length from ⟨List.take_of_length_le (by omega), rfl⟩)] at this; exact this))
            have HDR := Lib.hid hdr
            have HD1 := Lib.hid hd1
            have HD2 := Lib.hid hd2
            have HHA := Lib.hid hha
            have HML := Lib.hid hml
            have HNr := Lib.hid (HN4.out.trans_of HF.out (fun q hq e => by have := e.1; omega))
            have hszr : w1.heap.size ≤ wr.heap.size := Nat.le_trans hsz HF.out.size
            clear hdr hd1 hd2 hha hml hkm hkd hm hk hk64
            go_wp2_with (first
              | (go_at_call 24; refine HDR.out.mono ?_; rintro e w5 ⟨A', c', rfl, hR, hf⟩; have HX := Lib.hid (HX.out.nw hf); have HRm := Lib.hid (R_base0 hR); have HF := Lib.hid (HF.out.trans (FT.nw hf)); have HNr := Lib.hid (HNr.out.trans hf); have hszr := Nat.le_trans hszr hf.size; clear hR hf)
              | (go_at_call 25; (with_reducible refine Calls.mono (HD1.out _ HX.out (HT.out.step HNr.out) hszr) ?_); rintro e w6 ⟨rfl, hX, hf⟩; have HX := Lib.hid hX; have HRm := Lib.hid (R_ft HRm.out hf); have HF := Lib.hid (HF.out.trans hf); have HNr := Lib.hid (HNr.out.trans_of hf (fun q hq e => by have := e.1; omega)); have hszr := Nat.le_trans hszr (Fr.size hf); clear hX hf)
              | (go_at_call 25; (with_reducible refine Calls.mono (HD2.out _ HX.out (HT.out.step HNr.out) hszr) ?_); rintro e w7 ⟨rfl, hX, hf⟩; have HX := Lib.hid hX; have HRm := Lib.hid (R_ft HRm.out hf); have HF := Lib.hid (HF.out.trans hf); have HNr := Lib.hid (HNr.out.trans_of hf (fun q hq e => by have := e.1; omega)); clear hX hf)
              | (go_at_call 26; refine (HHA.out _ HX.out).mono ?_; rintro e w8 ⟨rfl, hX, hf⟩; have HX := Lib.hid hX; have HRm := Lib.hid (R_ft HRm.out hf); have HF := Lib.hid (HF.out.trans hf); have HNr := Lib.hid (HNr.out.trans_of hf (fun q hq e => by have := e.1; omega)); clear hX hf)
              | (go_at_call 16; refine (HSM.out _ _ HX.out (HT.out.step HNr.out) HRm.out).mono ?_; rintro e w9 ⟨rfl, hX, hf⟩; have HX := Lib.hid hX; have HRm := Lib.hid (R_ft HRm.out hf); have HF := Lib.hid (HF.out.trans hf); clear hX hf))
            go_roundw
            case rel => exact ⟨i + 1, m, A', c', rfl, by go_num, by have := HML.out; omega, HMU, HMB, HRm, HX, HF⟩
            case measure => (have := HML.out; simp only [lenOf]; omega)
        · obtain rfl : l' = [] := List.length_eq_zero_iff.1 (by omega)
          have HMI := Lib.hid (fun w' (h : TX w' w1.heap.size t [] 200000) => tx_min w1.heap.size t 200000 [] w' h)
          have HMA := Lib.hid (fun w' (h : TX w' w1.heap.size t [] 200000) => tx_max w1.heap.size t 200000 [] w' h)
          have HUS := Lib.hid (fun w' (h : TX w' w1.heap.size t [] 200000) => tx_used w1.heap.size t 200000 [] w' h)
          have hd : decide (([] : List Nat) ≠ []) = false := rfl
          rw [hd] at HMI HMA
          rw [used_nil] at HUS
          clear hd
          go_wp2_with (first
            | (go_at_call 27; refine (HMI.out _ HX.out).mono ?_; rintro e w5 ⟨rfl, hX, hf⟩; have HX := Lib.hid hX; have HF := Lib.hid (HF.out.trans hf); clear hX hf)
            | (go_at_call 28; refine (HMA.out _ HX.out).mono ?_; rintro e w5 ⟨rfl, hX, hf⟩; have HX := Lib.hid hX; have HF := Lib.hid (HF.out.trans hf); clear hX hf)
            | (go_at_call 19; refine (HUS.out _ HX.out).mono ?_; rintro e w' ⟨rfl, rfl⟩))
          go_ret
          exact ⟨rfl, HN4.out.trans_of HF.out (fun q hq e => by have := e.1; omega)⟩
end Go.Proofs.YtnhdcefoigmjpaaDoor

/-
  The contracts of Clear, of a trie's pool and of a trie.
-/

namespace Go.Proofs.YtnhdcefoigmjpaaDoor
open Go.RowKit Go.Proofs.YtnhdcefoigmjpaaDoorW.PrintWords Go.Proofs.YtnhdcefoigmjpaaDoorW.PrintMore
attribute [local go_sem] max2_int min2_int max_two min_two
set_option linter.unusedVariables false
set_option linter.unusedSimpArgs false

theorem run_clear_none (W : World) (a : Option Addr) (c : Nat) (ty : TypeId) : (Builtin.clear_ #[100] ty #[.slice a 0 c]).run Tryd.prog W = .ok (.tuple #[]) W := by
  cases a <;> simp [Builtin.clear_, run_underlying Tryd.underlying100]
theorem zero_cell (W : World) : (zeroValue 108).run Tryd.prog W = .ok (.agg #[.int .u64 0, .slice none 0 0, .int .i64 0, .int .u64 0, .int .u64 0, .bool false]) W := by kernel_rfl
theorem zero_len (n : Nat) : (Builtin.zeroCells (Value.agg #[.int .u64 0, .slice none 0 0, .int .i64 0, .int .u64 0, .int .u64 0, .bool false]).cells n).toList.length = n * 6 := by
  have : (Value.agg #[.int .u64 0, .slice none 0 0, .int .i64 0, .int .u64 0, .int .u64 0, .bool false]).cells.size = 6 := by rfl
  simp [size_zeroCells, this]
theorem bang_mem {a : Array Value} {i : Nat} (h : i < a.size) : a[i]! ∈ a := by rw [getElem!_pos a i h]; exact Array.getElem_mem h
theorem zero_one (n : Nat) : ∀ v ∈ (Builtin.zeroCells (Value.agg #[.int .u64 0, .slice none 0 0, .int .i64 0, .int .u64 0, .int .u64 0, .bool false]).cells n).toList, v.oneCell' = true := by
  intro v hv
  have h2 : v ∈ (Value.agg #[.int .u64 0, .slice none 0 0, .int .i64 0, .int .u64 0, .int .u64 0, .bool false]).cells := by
    simp only [Builtin.zeroCells] at hv
    simp at hv
    obtain ⟨i, hi, rfl⟩ := hv
    have hi2 : i % (Value.agg #[.int .u64 0, .slice none 0 0, .int .i64 0, .int .u64 0, .int .u64 0, .bool false]).cells.size < (Value.agg #[.int .u64 0, .slice none 0 0, .int .i64 0, .int .u64 0, .int .u64 0, .bool false]).cells.size := Nat.mod_lt _ (by show 0 < 6; decide)
    exact bang_mem hi2
  have e : (Value.agg #[.int .u64 0, .slice none 0 0, .int .i64 0, .int .u64 0, .int .u64 0, .bool false]).cells = #[.int .u64 0, .slice none 0 0, .int .i64 0, .int .u64 0, .int .u64 0, .bool false] := by rfl
  rw [e] at h2
  simp at h2
  rcases h2 with rfl | rfl | rfl | rfl | rfl | rfl <;> rfl
theorem run_clear_rows (W : World) (g n c : Nat) (ty : TypeId) (hc : ∀ j, j < (n + 1) * 6 → (W.cell? ⟨g, 0 + j, none⟩).isSome = true) (hf : ∀ j, j < (n + 1) * 6 → W.frozen? ⟨g, 0 + j, none⟩ = false) :
    (Builtin.clear_ #[100] ty #[.slice (some ⟨g, 0, none⟩) (n + 1) c]).run Tryd.prog W = .ok (.tuple #[]) (W.setCells g 0 (Builtin.zeroCells (Value.agg #[.int .u64 0, .slice none 0 0, .int .i64 0, .int .u64 0, .int .u64 0, .bool false]).cells (n + 1)).toList) := by
  have hst := run_storeCells_cells (P := Tryd.prog) g 0 (Builtin.zeroCells (Value.agg #[.int .u64 0, .slice none 0 0, .int .i64 0, .int .u64 0, .int .u64 0, .bool false]).cells (n + 1)).toList 0 W (by rw [zero_len]; exact hc) (by rw [zero_len]; exact hf) (zero_one (n + 1))
  simp only [Nat.add_zero] at hst
  simp [Builtin.clear_, run_underlying Tryd.underlying100, zero_cell, hst]
/-- What the pool's Clear leaves of its block. -/
theorem pl_clear_blk {W W1 : World} {p m lim : Nat} {rows : List (Option Nd)} {free : List Nat} {cv fv : Value} {S : Nat → Prop} (h : Pl W p m rows free lim cv fv) (hf : Fr S W W1) (hp : ¬ S p) :
    Pl (((W1.setCell ⟨p, 1, none⟩ (.slice none 0 0)).setCell ⟨p, 2, none⟩ (.slice none 0 0)).setCell ⟨p, 3, none⟩ (.int .i64 0)) p m [] [] lim (.slice none 0 0) (.slice none 0 0) := by
  have hb := hf.blk h.blk hp
  refine ⟨blk_set (blk_set (blk_set hb 1 _) 2 _) 3 _, World.ownsRow_nil _ _ _ _, Kd.R_nil _ _ _ _ _, fun j hj => (by cases hj), List.nodup_nil, rfl, Nat.zero_le _, h.limB⟩
set_option maxHeartbeats 2000000 in
theorem pl_clear (p m : Nat) (rows : List (Option Nd)) (free : List Nat) (lim : Nat) (cv fv : Value) (w : World) (h : Pl w p m rows free lim cv fv) :
    Calls Tryd.prog 66 #[.pointer (some ⟨p, 0, none⟩)] w fun e w' => e = .returned (.tuple #[]) ∧ Pl w' p m [] [] lim (.slice none 0 0) (.slice none 0 0) ∧ Fr (PS p cv fv) w w' := by
  have H := Lib.hid h
  have c1 : w.cell? ⟨p, 1, none⟩ = some cv := blk_cell h.blk 1
  have c2 : w.cell? ⟨p, 2, none⟩ = some fv := blk_cell h.blk 2
  have c3 : w.cell? ⟨p, 3, none⟩ = some (.int .i64 (liveN rows)) := blk_cell h.blk 3
  have f1 := blk_frozen h.blk 1
  have f2 := blk_frozen h.blk 2
  have f3 := blk_frozen h.blk 3
  rcases h.own.2 with ⟨rfl, h0⟩ | ⟨g, cap, cur, rfl, hg, hb, h3, h4, h5, h6⟩
  · clear h
    have hcl : ∀ ty, (Builtin.clear_ #[100] ty #[.slice none 0 0]).run Tryd.prog w = .ok (.tuple #[]) w := fun ty => run_clear_none w none 0 ty
    go_enter Tryd.func66, Tryd.ntmps66
    go_wp2
    go_end0
    exact ⟨rfl, pl_clear_blk H.out (Fr.refl (fun _ => False) w) (fun h => h), (((Fr.refl _ w).set (.inl rfl) _ _).set (.inl rfl) _ _).set (.inl rfl) _ _⟩
  · have hpg : p ≠ g := typ_ne h.blk hb (by decide)
    obtain ⟨n, hn⟩ : ∃ n, n = rows.length := ⟨_, rfl⟩
    rw [← hn] at c1 ⊢ h3
    have hn6 : n * 6 ≤ cur.size := by rw [h5]; exact Nat.mul_le_mul_right _ h3
    clear h
    cases n with
    | zero =>
      have hcl : ∀ ty, (Builtin.clear_ #[100] ty #[.slice (some ⟨g, 0, none⟩) 0 cap]).run Tryd.prog w = .ok (.tuple #[]) w := fun ty => run_clear_none w _ cap ty
      clear hn h4 h5 h6
      go_enter Tryd.func66, Tryd.ntmps66
      go_wp2
      go_end0
      exact ⟨rfl, pl_clear_blk H.out (Fr.refl (fun _ => False) w) (fun h => h), (((Fr.refl _ w).set (.inl rfl) _ _).set (.inl rfl) _ _).set (.inl rfl) _ _⟩
    | succ n =>
      have hcl : ∀ ty, (Builtin.clear_ #[100] ty #[.slice (some ⟨g, 0, none⟩) (n + 1) cap]).run Tryd.prog w = .ok (.tuple #[]) (w.setCells g 0 (Builtin.zeroCells (Value.agg #[.int .u64 0, .slice none 0 0, .int .i64 0, .int .u64 0, .int .u64 0, .bool false]).cells (n + 1)).toList) := fun ty => run_clear_rows w g n cap ty (fun j hj => by rw [Nat.zero_add, blk_cell hb]; simp; omega) (fun j hj => blk_frozen hb _)
      have HG := Lib.hid (fr_setCells g (Builtin.zeroCells (Value.agg #[.int .u64 0, .slice none 0 0, .int .i64 0, .int .u64 0, .int .u64 0, .bool false]).cells (n + 1)).toList 0 w)
      obtain ⟨w1, hw1⟩ : ∃ w1, w1 = w.setCells g 0 (Builtin.zeroCells (Value.agg #[.int .u64 0, .slice none 0 0, .int .i64 0, .int .u64 0, .int .u64 0, .bool false]).cells (n + 1)).toList := ⟨_, rfl⟩
      rw [← hw1] at hcl HG
      have d1 := HG.out.cell c1 (by simp only [One]; exact hpg)
      have d2 := HG.out.cell c2 (by simp only [One]; exact hpg)
      have d3 := HG.out.cell c3 (by simp only [One]; exact hpg)
      have hb1 := HG.out.blk H.out.blk (by simp only [One]; exact hpg)
      have e1 := blk_frozen hb1 1
      have e2 := blk_frozen hb1 2
      have e3 := blk_frozen hb1 3
      have HPG := Lib.hid hpg
      clear hw1 hn h4 h5 h6 hb1 hn6 f1 f2 f3
      go_enter Tryd.func66, Tryd.ntmps66
      go_wp2
      go_end0
      refine ⟨rfl, pl_clear_blk H.out HG.out (by simp only [One]; exact HPG.out), (HG.out.mono (fun q _ h => .inr (.inl (by rw [show q = g from h]; rfl)))).trans ((((Fr.refl _ w1).set (.inl rfl) _ _).set (.inl rfl) _ _).set (.inl rfl) _ _)⟩
/-- A pool's Clear leaves no key. -/
theorem tclear_calls (t m p lim root : Nat) (l : List Nat) (ad : Ad) (rows : List (Option Nd)) (free : List Nat) (cv fv : Value) (tk : Int) (w : World) (h : TI w t m p l lim ad rows free cv fv root) (hm : MT w m tk) :
    Calls Tryd.prog 29 #[.pointer (some ⟨t, 0, none⟩)] w fun e w' => e = .returned (.tuple #[]) ∧ TI w' t m p [] lim ad [] [] (.slice none 0 0) (.slice none 0 0) root ∧ MT w' m tk ∧ Fr (TS t m p cv fv) w w' := by
  have H := Lib.hid h
  have HM := Lib.hid hm
  have c1 : w.cell? ⟨t, 1, none⟩ = some (.pointer (some ⟨p, 0, none⟩)) := blk_cell h.blk 1
  clear h hm
  go_enter Tryd.func29, Tryd.ntmps29
  go_wp2_with (first
    | (go_at_call 66; refine (pl_clear p m rows free lim cv fv _ H.out.pl).mono ?_; rintro e w1 ⟨rfl, hpl, hf⟩; have hbt := hf.blk H.out.blk (ps_typ H.out.pl H.out.blk (by decide) (by decide) (by decide)); have c3 : w1.cell? ⟨t, 3, none⟩ = some (.int .i64 l.length) := blk_cell hbt 3; have f3 := blk_frozen hbt 3; have HB := Lib.hid hbt; have HP := Lib.hid hpl; have HF := Lib.hid hf; clear hpl hf hbt))
  go_end0
  have hF : Fr (One t) w1 (w1.setCell ⟨t, 3, none⟩ (.int .i64 0)) := (Fr.refl _ _).set (One.self t) _ _
  refine ⟨rfl, ⟨blk_set HB.out 3 _, HP.out.fr hF (typ_ne HP.out.blk HB.out (by decide)) (fun q hq => (by cases hq)) (fun q hq => (by cases hq)), ⟨fun i _ k hk => (by cases hk), fun i j _ _ x hx => (by cases hx)⟩, (by rw [used_nil]; rfl), List.Pairwise.nil, fun x hx => (by cases hx), Nat.zero_le _, fun h => absurd rfl h⟩, ?_, (HF.out.mono (fun q _ h => .inr (.inr h))).trans (hF.mono (fun q _ h => .inl h))⟩
  obtain ⟨a, b, c, e, hb⟩ := HM.out
  exact ⟨a, b, c, e, hF.blk (HF.out.blk hb (ps_typ H.out.pl hb (by decide) (by decide) (by decide))) (typ_ne hb H.out.blk (by decide))⟩
end Go.Proofs.YtnhdcefoigmjpaaDoor

/-
  The contract of the law's do: an act on a trie.
-/

namespace Go.Proofs.YtnhdcefoigmjpaaDoor
open Go.RowKit Go.Proofs.YtnhdcefoigmjpaaDoorW.PrintWords Go.Proofs.YtnhdcefoigmjpaaDoorW.PrintMore
attribute [local go_sem] max2_int min2_int max_two min_two
set_option linter.unusedVariables false
set_option linter.unusedSimpArgs false

/-- A trie as the law sees it, with the steps since the last start. -/
def TY (W : World) (B t : Nat) (l : List Nat) (lim : Nat) (tk : Int) : Prop := ∃ (m p : Nat) (ad : Ad) (rows : List (Option Nd)) (free : List Nat) (cv fv : Value) (root : Nat),
  TI W t m p l lim ad rows free cv fv root ∧ MT W m tk ∧ B ≤ t ∧ B ≤ m ∧ B ≤ p ∧ (∀ q, cv.ownBlock = some q → B ≤ q) ∧ (∀ q, fv.ownBlock = some q → B ≤ q)
theorem TY.tx {W : World} {B t lim : Nat} {l : List Nat} {tk : Int} (h : TY W B t l lim tk) : TX W B t l lim := by
  obtain ⟨m, p, ad, rows, free, cv, fv, root, h1, h2, h3⟩ := h
  exact ⟨m, p, ad, rows, free, cv, fv, root, tk, h1, h2, h3⟩
theorem TX.ty {W : World} {B t lim : Nat} {l : List Nat} (h : TX W B t l lim) : ∃ tk, TY W B t l lim tk := by
  obtain ⟨m, p, ad, rows, free, cv, fv, root, tk, h1, h2, h3⟩ := h
  exact ⟨tk, m, p, ad, rows, free, cv, fv, root, h1, h2, h3⟩
theorem TY.fr {W W' : World} {B t lim : Nat} {l : List Nat} {tk : Int} {S : Nat → Prop} (h : TY W B t l lim tk) (hf : Fr S W W') (hS : ∀ q, S q → ¬ TrB W q) : TY W' B t l lim tk := by
  obtain ⟨m, p, ad, rows, free, cv, fv, root, h, hm, hb⟩ := h
  obtain ⟨a, b, c, d, hx⟩ := id hm
  refine ⟨m, p, ad, rows, free, cv, fv, root, h.fr hf (fun e => hS _ e ⟨_, _, h.blk, .inl rfl⟩) (fun e => hS _ e ⟨_, _, h.pl.blk, .inr (.inr (.inl rfl))⟩) (fun q hq e => ?_) (fun q hq e => ?_) (fun q hq e => ?_), hm.fr hf (fun e => hS _ e ⟨_, _, hx, .inr (.inl rfl)⟩), hb⟩
  · obtain ⟨_, hc⟩ := own_blk h.pl.own q hq
    exact hS _ e ⟨_, _, hc, .inr (.inr (.inr (.inl rfl)))⟩
  · obtain ⟨_, hc⟩ := own_blk (Kd.own_of_R h.pl.fre) q hq
    exact hS _ e ⟨_, _, hc, .inr (.inr (.inr (.inr rfl)))⟩
  · obtain ⟨_, _, hc⟩ := hq
    exact hS _ e ⟨_, _, hc, .inr (.inr (.inr (.inr rfl)))⟩
theorem TY.nw {W W' : World} {B t lim : Nat} {l : List Nat} {tk : Int} (h : TY W B t l lim tk) (hf : Nw W W') : TY W' B t l lim tk := h.fr hf (fun _ h => h.elim)
theorem trb_ty {W : World} {q : Nat} {cur : Array Value} {T : TypeId} (h : W.heap[q]? = some (.cells cur T (0, 0))) (h1 : T ≠ 64) (h2 : T ≠ 98) (h3 : T ≠ 102) (h4 : T ≠ 108) (h5 : T ≠ 3) : ¬ TrB W q := by
  rintro ⟨cs, T', h6, h7⟩
  rw [h] at h6
  simp only [Option.some.injEq, Obj.cells.injEq] at h6
  obtain ⟨_, rfl, _⟩ := h6
  rcases h7 with h7 | h7 | h7 | h7 | h7
  · exact h1 h7
  · exact h2 h7
  · exact h3 h7
  · exact h4 h7
  · exact h5 h7
/-- What a set of cells turns of a trie and of the rest. -/
theorem ft_ts {B t m p : Nat} {W W' : World} {l : List Nat} {lim root : Nat} {ad : Ad} {rows : List (Option Nd)} {free : List Nat} {cv fv : Value} {tk : Int} (h : TI W t m p l lim ad rows free cv fv root) (hm : MT W m tk) (b1 : B ≤ t) (b2 : B ≤ m) (b3 : B ≤ p) (b4 : ∀ q, cv.ownBlock = some q → B ≤ q) (b5 : ∀ q, fv.ownBlock = some q → B ≤ q) (h3 : Fr (TS t m p cv fv) W W') : FT B W W' :=
  h3.mono (fun q hql e => by
    rcases e with rfl | rfl | rfl | e | e
    · exact ⟨b1, _, _, h.blk, .inl rfl⟩
    · obtain ⟨a, b, c, d, hx⟩ := hm
      exact ⟨b2, _, _, hx, .inr (.inl rfl)⟩
    · exact ⟨b3, _, _, h.pl.blk, .inr (.inr (.inl rfl))⟩
    · obtain ⟨_, hc⟩ := own_blk h.pl.own q e
      exact ⟨b4 q e, _, _, hc, .inr (.inr (.inr (.inl rfl)))⟩
    · obtain ⟨_, hc⟩ := own_blk (Kd.own_of_R h.pl.fre) q e
      exact ⟨b5 q e, _, _, hc, .inr (.inr (.inr (.inr rfl)))⟩)
section
variable (B t lim : Nat) (l : List Nat) (tk : Int) (w : World) (h : TY w B t l lim tk)
include h
theorem ty_next (hT : Tb w) (k : Nat) (hk : k < 18446744073709551616) :
    Calls Tryd.prog 14 #[.pointer (some ⟨t, 0, none⟩), .int .u64 k] w fun e w' => e = .returned (nxtV l k) ∧ (∃ tk' : Int, 0 ≤ tk' ∧ tk' ≤ 12 ∧ TY w' B t l lim tk') ∧ FT B w w' := by
  obtain ⟨m, p, ad, rows, free, cv, fv, root, h, hm, hb⟩ := h
  refine (tnext_calls t m p lim root l ad rows free cv fv tk w h hm k hk hT).mono ?_
  rintro e w' ⟨rfl, h1, ⟨tk', q1, q2, h2⟩, h3⟩
  exact ⟨rfl, ⟨tk', q1, q2, m, p, ad, rows, free, cv, fv, root, h1, h2, hb⟩, FT.of_one hm hb.2.1 h3⟩
theorem ty_prev (k : Nat) (hk : k < 18446744073709551616) :
    Calls Tryd.prog 15 #[.pointer (some ⟨t, 0, none⟩), .int .u64 k] w fun e w' => e = .returned (prvV l k) ∧ (∃ tk' : Int, 0 ≤ tk' ∧ tk' ≤ 12 ∧ TY w' B t l lim tk') ∧ FT B w w' := by
  obtain ⟨m, p, ad, rows, free, cv, fv, root, h, hm, hb⟩ := h
  refine (tprev_calls t m p lim root l ad rows free cv fv tk w h hm k hk).mono ?_
  rintro e w' ⟨rfl, h1, ⟨tk', q1, q2, h2⟩, h3⟩
  exact ⟨rfl, ⟨tk', q1, q2, m, p, ad, rows, free, cv, fv, root, h1, h2, hb⟩, FT.of_one hm hb.2.1 h3⟩
theorem ty_has (k : Nat) (hk : k < 18446744073709551616) :
    Calls Tryd.prog 26 #[.pointer (some ⟨t, 0, none⟩), .int .u64 k] w fun e w' => e = .returned (.bool (decide (k ∈ l))) ∧ (∃ tk' : Int, 0 ≤ tk' ∧ tk' ≤ 11 ∧ TY w' B t l lim tk') ∧ FT B w w' := by
  obtain ⟨m, p, ad, rows, free, cv, fv, root, h, hm, hb⟩ := h
  refine (thas_calls t m p lim root l ad rows free cv fv tk w h hm k hk).mono ?_
  rintro e w' ⟨rfl, h1, ⟨tk', q1, q2, h2⟩, h3⟩
  exact ⟨rfl, ⟨tk', q1, q2, m, p, ad, rows, free, cv, fv, root, h1, h2, hb⟩, FT.of_one hm hb.2.1 h3⟩
theorem ty_min : Calls Tryd.prog 27 #[.pointer (some ⟨t, 0, none⟩)] w fun e w' => e = .returned (.tuple #[.int .u64 (l.headD 0 : Nat), .bool (decide (l ≠ []))]) ∧ (∃ tk' : Int, 0 ≤ tk' ∧ tk' ≤ 1 ∧ TY w' B t l lim tk') ∧ FT B w w' := by
  obtain ⟨m, p, ad, rows, free, cv, fv, root, h, hm, hb⟩ := h
  refine (tmin_calls t m p lim root l ad rows free cv fv tk w h hm).mono ?_
  rintro e w' ⟨rfl, h1, ⟨tk', q1, q2, h2⟩, h3⟩
  exact ⟨rfl, ⟨tk', q1, q2, m, p, ad, rows, free, cv, fv, root, h1, h2, hb⟩, FT.of_one hm hb.2.1 h3⟩
theorem ty_max : Calls Tryd.prog 28 #[.pointer (some ⟨t, 0, none⟩)] w fun e w' => e = .returned (.tuple #[.int .u64 (l.getLastD 0 : Nat), .bool (decide (l ≠ []))]) ∧ (∃ tk' : Int, 0 ≤ tk' ∧ tk' ≤ 1 ∧ TY w' B t l lim tk') ∧ FT B w w' := by
  obtain ⟨m, p, ad, rows, free, cv, fv, root, h, hm, hb⟩ := h
  refine (tmax_calls t m p lim root l ad rows free cv fv tk w h hm).mono ?_
  rintro e w' ⟨rfl, h1, ⟨tk', q1, q2, h2⟩, h3⟩
  exact ⟨rfl, ⟨tk', q1, q2, m, p, ad, rows, free, cv, fv, root, h1, h2, hb⟩, FT.of_one hm hb.2.1 h3⟩
theorem ty_insert (hBw : B ≤ w.heap.size) (k : Nat) (hk : k < 18446744073709551616) (hlen : l.length + 1 ≤ 1000000) :
    Calls Tryd.prog 23 #[.pointer (some ⟨t, 0, none⟩), .int .u64 k] w fun e w' => e = .returned (.int .i64 (insE lim l k).1) ∧ (∃ tk' : Int, 0 ≤ tk' ∧ tk' ≤ 22 ∧ TY w' B t (insE lim l k).2 lim tk') ∧ FT B w w' := by
  obtain ⟨m, p, ad, rows, free, cv, fv, root, h, hm, hb⟩ := h
  unfold insE
  by_cases hkl : k ∈ l
  · rw [if_pos hkl]
    refine (tins_there t m p lim root l ad rows free cv fv tk w h hm k hk hkl).mono ?_
    rintro e w' ⟨rfl, h1, ⟨tk', q1, q2, h2⟩, h3⟩
    exact ⟨rfl, ⟨tk', q1, by omega, m, p, ad, rows, free, cv, fv, root, h1, h2, hb⟩, FT.of_one hm hb.2.1 h3⟩
  · rw [if_neg hkl]
    by_cases hu : used (insS l k) ≤ lim
    · rw [if_pos hu]
      refine (tins_new t m p lim root l ad rows free cv fv tk w h hm k hk hkl hlen hu).mono ?_
      rintro e w' ⟨rfl, ad', rows', free', cv', fv', root', h1, hx1, hx2, ⟨tk', q1, q2, h2⟩, h3⟩
      obtain ⟨b1, b2, b3, b4, b5⟩ := hb
      refine ⟨rfl, ⟨tk', q1, q2, m, p, ad', rows', free', cv', fv', root', h1, h2, b1, b2, b3, fun q hq => ?_, fun q hq => ?_⟩, ft_ts h hm b1 b2 b3 b4 b5 h3⟩
      · rcases hx1 q hq with e | e
        · exact b4 q e
        · omega
      · rcases hx2 q hq with e | e
        · exact b5 q e
        · omega
    · rw [if_neg hu]
      refine (tins_full t m p lim root l ad rows free cv fv tk w h hm k hk hkl (by omega)).mono ?_
      rintro e w' ⟨rfl, h1, ⟨tk', q1, q2, h2⟩, h3⟩
      exact ⟨rfl, ⟨tk', q1, by omega, m, p, ad, rows, free, cv, fv, root, h1, h2, hb⟩, FT.of_one hm hb.2.1 h3⟩
theorem ty_delete (hT : Tb w) (hg : 0 < B) (hBw : B ≤ w.heap.size) (k : Nat) (hk : k < 18446744073709551616) :
    Calls Tryd.prog 25 #[.pointer (some ⟨t, 0, none⟩), .int .u64 k] w fun e w' => e = .returned (.int .i64 (delE l k).1) ∧ (∃ tk' : Int, 0 ≤ tk' ∧ tk' ≤ 22 ∧ TY w' B t (delE l k).2 lim tk') ∧ FT B w w' := by
  obtain ⟨m, p, ad, rows, free, cv, fv, root, h, hm, hb⟩ := h
  unfold delE
  by_cases hkl : k ∈ l
  · rw [if_pos hkl]
    have hup := up_dropS h.up k
    have hkd : k ∉ dropS l k := fun h => by rw [mem_dropS] at h; exact h.2 rfl
    have e := ins_drop h.up hkl
    obtain ⟨b1, b2, b3, b4, b5⟩ := hb
    refine (tdel_there t m p lim root (dropS l k) k ad rows free cv fv tk w (by rw [e]; exact h) hm hup hkd hk hT (fun e => ?_)).mono ?_
    · rcases e with e | e | e
      · omega
      · have := b4 _ e; omega
      · have := b5 _ e; omega
    rintro e w' ⟨rfl, rows', free', fv', h1, hx2, ⟨tk', q1, q2, h2⟩, h3⟩
    refine ⟨rfl, ⟨tk', q1, q2, m, p, ad, rows', free', cv, fv', root, h1, h2, b1, b2, b3, b4, fun q hq => ?_⟩, ft_ts h hm b1 b2 b3 b4 b5 h3⟩
    rcases hx2 q hq with e | e
    · exact b5 q e
    · omega
  · rw [if_neg hkl]
    refine (tdel_none t m p lim root l ad rows free cv fv tk w h hm k hk hkl).mono ?_
    rintro e w' ⟨rfl, h1, ⟨tk', q1, q2, h2⟩, h3⟩
    exact ⟨rfl, ⟨tk', q1, by omega, m, p, ad, rows, free, cv, fv, root, h1, h2, hb⟩, FT.of_one hm hb.2.1 h3⟩
theorem ty_clear : Calls Tryd.prog 29 #[.pointer (some ⟨t, 0, none⟩)] w fun e w' => e = .returned (.tuple #[]) ∧ TY w' B t [] lim tk ∧ FT B w w' := by
  obtain ⟨m, p, ad, rows, free, cv, fv, root, h, hm, hb⟩ := h
  obtain ⟨b1, b2, b3, b4, b5⟩ := hb
  refine (tclear_calls t m p lim root l ad rows free cv fv tk w h hm).mono ?_
  rintro e w' ⟨rfl, h1, h2, h3⟩
  exact ⟨rfl, ⟨m, p, ad, _, _, _, _, root, h1, h2, b1, b2, b3, fun q hq => (by cases hq), fun q hq => (by cases hq)⟩, ft_ts h hm b1 b2 b3 b4 b5 h3⟩
theorem ty_limit : Calls Tryd.prog 31 #[.pointer (some ⟨t, 0, none⟩)] w fun e w' => e = .returned (.int .i64 lim) ∧ w = w' := by
  obtain ⟨m, p, ad, rows, free, cv, fv, root, h, hm, hb⟩ := h
  exact tlimit_calls t m p lim root l ad rows free cv fv w h
end
/-! ### the answers -/
/-- The answer of an act: the error, the key, whether; and the keys then. -/
def ansA (l : List Nat) (r k : Nat) : (Nat × Nat × Bool) × List Nat :=
  if r < 2 then (if k ∈ l then ((4, 0, false), l) else ((0, 0, false), insS l k))
  else if r = 2 then (if k ∈ l then ((0, 0, false), dropS l k) else ((3, 0, false), l))
  else if r = 3 then ((0, 0, decide (k ∈ l)), l)
  else if r = 4 then ((0, (l[cntLt l k]?).getD 0, (l[cntLt l k]?).isSome), l)
  else if r = 5 then ((0, (if k ∈ l then k else if cntLt l k = 0 then 0 else (l[cntLt l k - 1]?).getD 0), (decide (k ∈ l) || decide (cntLt l k ≠ 0))), l)
  else if r = 6 then ((0, l.headD 0, decide (l ≠ [])), l)
  else if r = 7 then ((0, l.getLastD 0, decide (l ≠ [])), l)
  else ((0, 0, false), [])
/-- How many steps an act may take. -/
def stepsN (r : Nat) : Nat := if r = 3 then 11 else if r = 4 then 12 else if r = 5 then 12 else if r = 6 then 1 else if r = 7 then 1 else 1073741824
def FullA (lim : Nat) (l : List Nat) (r k : Nat) : Prop := r < 2 ∧ k ∉ l ∧ lim < used (insS l k)
theorem blk_put3 {W : World} {b : Nat} {a0 a1 a2 : Value} {T : TypeId} (h : W.heap[b]? = some (.cells #[a0, a1, a2] T (0, 0))) (x y z : Value) :
    (((W.setCell ⟨b, 0, none⟩ x).setCell ⟨b, 1, none⟩ y).setCell ⟨b, 2, none⟩ z).heap[b]? = some (.cells #[x, y, z] T (0, 0)) := blk_set (blk_set (blk_set h 0 x) 1 y) 2 z
theorem cells3 {W : World} {b : Nat} {a0 a1 a2 : Value} {T : TypeId} {m : Nat × Nat} (h : W.heap[b]? = some (.cells #[a0, a1, a2] T m)) : W.cell? ⟨b, 0, none⟩ = some a0 ∧ W.cell? ⟨b, 1, none⟩ = some a1 ∧ W.cell? ⟨b, 2, none⟩ = some a2 := ⟨blk_cell h 0, blk_cell h 1, blk_cell h 2⟩
end Go.Proofs.YtnhdcefoigmjpaaDoor

/-
  The walk of the law's do: an act on a trie.
-/

namespace Go.Proofs.YtnhdcefoigmjpaaDoor
open Go.RowKit Go.Proofs.YtnhdcefoigmjpaaDoorW.PrintWords Go.Proofs.YtnhdcefoigmjpaaDoorW.PrintMore
attribute [local go_sem] max2_int min2_int max_two min_two
set_option linter.unusedVariables false
set_option linter.unusedSimpArgs false
theorem blk_new3 (W : World) (o o2 o3 : Obj) : (((W.alloc o).alloc o2).alloc o3).heap[W.heap.size + 1 + 1]? = some o3 := by
  have := blk_new ((W.alloc o).alloc o2) o3
  simpa using this
set_option maxRecDepth 100000 in
set_option maxHeartbeats 4000000 in
theorem do_0 (B t lim : Nat) (l2 : List Nat) (d k bd : Nat) (E : Nat) (w : World) (hBw : B ≤ w.heap.size) (hr : d % 9 = 0)
    (HI0 : ∀ w', Nw w w' → Calls Tryd.prog 23 #[.pointer (some ⟨t, 0, none⟩), .int .u64 (k : Nat)] w' fun e w'' => e = .returned (.int .i64 (E : Nat)) ∧ (∃ tk' : Int, 0 ≤ tk' ∧ tk' ≤ bd ∧ TY w'' B t l2 lim tk') ∧ FT B w' w'') :
    Calls Tryd.prog 34 #[.pointer (some ⟨t, 0, none⟩), .agg #[.int .u8 (d : Nat), .int .u64 (k : Nat)]] w fun e w' => e = .returned (.agg #[.int .i64 ((E : Nat) : Int), .int .u64 0, .bool false]) ∧ (∃ tk' : Int, 0 ≤ tk' ∧ tk' ≤ bd ∧ TY w' B t l2 lim tk') ∧ FT B w w' := by
  have HI := Lib.hid HI0
  have HBW := Lib.hid hBw
  have hm : Int.tmod (d : Int) 9 = 0 := by rw [show (9 : Int) = ((9 : Nat) : Int) from rfl, tmod_nat, hr]; rfl
  clear hr HI0
  · go_enter Tryd.func34, Tryd.ntmps34
    go_wp2_with (first
      | (go_at_call 23; refine (HI.out _ ((((Fr.refl _ w).alloc _).alloc _).alloc _)).mono ?_; rintro e w4 ⟨rfl, ⟨tk', q1, q2, ht⟩, hf⟩; have HT4 := Lib.hid ht; have hb4 := hf.blk (blk_alloc (blk_new2 w _ _) (.cells #[.int .i64 0, .int .u64 0, .bool false] 57)) (fun e => trb_ty (blk_alloc (blk_new2 w _ _) _) (by decide) (by decide) (by decide) (by decide) (by decide) e.2); have hb5 := hf.blk (blk_new3 w (.cells #[.int .u8 d, .int .u64 k] 55) (.cells #[.int .i64 0, .int .u64 0, .bool false] 57) (.cells #[.int .i64 0, .int .u64 0, .bool false] 57)) (fun e => trb_ty (blk_new3 w _ _ _) (by decide) (by decide) (by decide) (by decide) (by decide) e.2); have HFA := Lib.hid ((FT.nw (B := B) ((((Fr.refl (fun _ => False) w).alloc (.cells #[.int .u8 d, .int .u64 k] 55)).alloc (.cells #[.int .i64 0, .int .u64 0, .bool false] 57)).alloc (.cells #[.int .i64 0, .int .u64 0, .bool false] 57))).trans hf); obtain ⟨r0, r1, r2⟩ := cells3 hb5; obtain ⟨s0, s1, s2⟩ := cells3 hb4; have g0 := blk_frozen hb5 0; have g1 := blk_frozen hb5 1; have g2 := blk_frozen hb5 2; have k0 := blk_frozen hb4 0; have k1 := blk_frozen hb4 1; have k2 := blk_frozen hb4 2; have HB4 := Lib.hid hb4; have HB5 := Lib.hid hb5; clear hf hb4 hb5; clear ht))
    have hb4 := ((Fr.refl (One (w.heap.size + 1 + 1)) w4).set (One.self _) 0 _ : Fr (One (w.heap.size + 1 + 1)) w4 (w4.setCell ⟨w.heap.size + 1 + 1, 0, none⟩ (.int .i64 (E : Nat)))).blk HB4.out (by simp only [One]; omega)
    have hB := blk_put3 hb4 (.int .i64 ((E : Nat) : Int)) (.int .u64 0) (.bool false)
    have hfz : Fr (fun q => q = w.heap.size + 1 ∨ q = w.heap.size + 1 + 1) w4 ((((w4.setCell ⟨w.heap.size + 1 + 1, 0, none⟩ (.int .i64 (E : Nat))).setCell ⟨(w.heap.size + 1), 0, none⟩ (.int .i64 ((E : Nat) : Int))).setCell ⟨(w.heap.size + 1), 1, none⟩ (.int .u64 0)).setCell ⟨(w.heap.size + 1), 2, none⟩ (.bool false)) := (((Fr.refl (One (w.heap.size + 1 + 1)) w4).set (One.self _) 0 _ : Fr (One (w.heap.size + 1 + 1)) w4 (w4.setCell ⟨w.heap.size + 1 + 1, 0, none⟩ (.int .i64 (E : Nat)))).mono (fun _ _ h => .inr h)).trans (((((Fr.refl _ _).set (.inl rfl) _ _).set (.inl rfl) _ _).set (.inl rfl) _ _))
    have HTZ := Lib.hid (HT4.out.fr hfz (fun q hq => by
      rcases hq with rfl | rfl
      · exact trb_ty HB4.out (by decide) (by decide) (by decide) (by decide) (by decide)
      · exact trb_ty HB5.out (by decide) (by decide) (by decide) (by decide) (by decide)))
    have HFZ : Hid (FT B w ((((w4.setCell ⟨w.heap.size + 1 + 1, 0, none⟩ (.int .i64 (E : Nat))).setCell ⟨(w.heap.size + 1), 0, none⟩ (.int .i64 ((E : Nat) : Int))).setCell ⟨(w.heap.size + 1), 1, none⟩ (.int .u64 0)).setCell ⟨(w.heap.size + 1), 2, none⟩ (.bool false))) := Lib.hid (HFA.out.trans_of hfz (fun q hq e => by rcases e with e | e <;> omega))
    generalize ((((w4.setCell ⟨w.heap.size + 1 + 1, 0, none⟩ (.int .i64 (E : Nat))).setCell ⟨(w.heap.size + 1), 0, none⟩ (.int .i64 ((E : Nat) : Int))).setCell ⟨(w.heap.size + 1), 1, none⟩ (.int .u64 0)).setCell ⟨(w.heap.size + 1), 2, none⟩ (.bool false)) = W9 at hB HTZ HFZ ⊢
    obtain ⟨z0, z1, z2⟩ := cells3 hB
    refine bodyPost_ret (by simp [results, Tryd.results34, go_sem, z0, z1, z2]; try rfl) rfl ?_
    exact ⟨rfl, ⟨tk', q1, q2, HTZ.out⟩, HFZ.out⟩
set_option maxRecDepth 100000 in
set_option maxHeartbeats 4000000 in
theorem do_1 (B t lim : Nat) (l2 : List Nat) (d k bd : Nat) (E : Nat) (w : World) (hBw : B ≤ w.heap.size) (hr : d % 9 = 1)
    (HI0 : ∀ w', Nw w w' → Calls Tryd.prog 23 #[.pointer (some ⟨t, 0, none⟩), .int .u64 (k : Nat)] w' fun e w'' => e = .returned (.int .i64 (E : Nat)) ∧ (∃ tk' : Int, 0 ≤ tk' ∧ tk' ≤ bd ∧ TY w'' B t l2 lim tk') ∧ FT B w' w'') :
    Calls Tryd.prog 34 #[.pointer (some ⟨t, 0, none⟩), .agg #[.int .u8 (d : Nat), .int .u64 (k : Nat)]] w fun e w' => e = .returned (.agg #[.int .i64 ((E : Nat) : Int), .int .u64 0, .bool false]) ∧ (∃ tk' : Int, 0 ≤ tk' ∧ tk' ≤ bd ∧ TY w' B t l2 lim tk') ∧ FT B w w' := by
  have HI := Lib.hid HI0
  have HBW := Lib.hid hBw
  have hm : Int.tmod (d : Int) 9 = 1 := by rw [show (9 : Int) = ((9 : Nat) : Int) from rfl, tmod_nat, hr]; rfl
  clear hr HI0
  · go_enter Tryd.func34, Tryd.ntmps34
    go_wp2_with (first
      | (go_at_call 23; refine (HI.out _ ((((Fr.refl _ w).alloc _).alloc _).alloc _)).mono ?_; rintro e w4 ⟨rfl, ⟨tk', q1, q2, ht⟩, hf⟩; have HT4 := Lib.hid ht; have hb4 := hf.blk (blk_alloc (blk_new2 w _ _) (.cells #[.int .i64 0, .int .u64 0, .bool false] 57)) (fun e => trb_ty (blk_alloc (blk_new2 w _ _) _) (by decide) (by decide) (by decide) (by decide) (by decide) e.2); have hb5 := hf.blk (blk_new3 w (.cells #[.int .u8 d, .int .u64 k] 55) (.cells #[.int .i64 0, .int .u64 0, .bool false] 57) (.cells #[.int .i64 0, .int .u64 0, .bool false] 57)) (fun e => trb_ty (blk_new3 w _ _ _) (by decide) (by decide) (by decide) (by decide) (by decide) e.2); have HFA := Lib.hid ((FT.nw (B := B) ((((Fr.refl (fun _ => False) w).alloc (.cells #[.int .u8 d, .int .u64 k] 55)).alloc (.cells #[.int .i64 0, .int .u64 0, .bool false] 57)).alloc (.cells #[.int .i64 0, .int .u64 0, .bool false] 57))).trans hf); obtain ⟨r0, r1, r2⟩ := cells3 hb5; obtain ⟨s0, s1, s2⟩ := cells3 hb4; have g0 := blk_frozen hb5 0; have g1 := blk_frozen hb5 1; have g2 := blk_frozen hb5 2; have k0 := blk_frozen hb4 0; have k1 := blk_frozen hb4 1; have k2 := blk_frozen hb4 2; have HB4 := Lib.hid hb4; have HB5 := Lib.hid hb5; clear hf hb4 hb5; clear ht))
    have hb4 := ((Fr.refl (One (w.heap.size + 1 + 1)) w4).set (One.self _) 0 _ : Fr (One (w.heap.size + 1 + 1)) w4 (w4.setCell ⟨w.heap.size + 1 + 1, 0, none⟩ (.int .i64 (E : Nat)))).blk HB4.out (by simp only [One]; omega)
    have hB := blk_put3 hb4 (.int .i64 ((E : Nat) : Int)) (.int .u64 0) (.bool false)
    have hfz : Fr (fun q => q = w.heap.size + 1 ∨ q = w.heap.size + 1 + 1) w4 ((((w4.setCell ⟨w.heap.size + 1 + 1, 0, none⟩ (.int .i64 (E : Nat))).setCell ⟨(w.heap.size + 1), 0, none⟩ (.int .i64 ((E : Nat) : Int))).setCell ⟨(w.heap.size + 1), 1, none⟩ (.int .u64 0)).setCell ⟨(w.heap.size + 1), 2, none⟩ (.bool false)) := (((Fr.refl (One (w.heap.size + 1 + 1)) w4).set (One.self _) 0 _ : Fr (One (w.heap.size + 1 + 1)) w4 (w4.setCell ⟨w.heap.size + 1 + 1, 0, none⟩ (.int .i64 (E : Nat)))).mono (fun _ _ h => .inr h)).trans (((((Fr.refl _ _).set (.inl rfl) _ _).set (.inl rfl) _ _).set (.inl rfl) _ _))
    have HTZ := Lib.hid (HT4.out.fr hfz (fun q hq => by
      rcases hq with rfl | rfl
      · exact trb_ty HB4.out (by decide) (by decide) (by decide) (by decide) (by decide)
      · exact trb_ty HB5.out (by decide) (by decide) (by decide) (by decide) (by decide)))
    have HFZ : Hid (FT B w ((((w4.setCell ⟨w.heap.size + 1 + 1, 0, none⟩ (.int .i64 (E : Nat))).setCell ⟨(w.heap.size + 1), 0, none⟩ (.int .i64 ((E : Nat) : Int))).setCell ⟨(w.heap.size + 1), 1, none⟩ (.int .u64 0)).setCell ⟨(w.heap.size + 1), 2, none⟩ (.bool false))) := Lib.hid (HFA.out.trans_of hfz (fun q hq e => by rcases e with e | e <;> omega))
    generalize ((((w4.setCell ⟨w.heap.size + 1 + 1, 0, none⟩ (.int .i64 (E : Nat))).setCell ⟨(w.heap.size + 1), 0, none⟩ (.int .i64 ((E : Nat) : Int))).setCell ⟨(w.heap.size + 1), 1, none⟩ (.int .u64 0)).setCell ⟨(w.heap.size + 1), 2, none⟩ (.bool false)) = W9 at hB HTZ HFZ ⊢
    obtain ⟨z0, z1, z2⟩ := cells3 hB
    refine bodyPost_ret (by simp [results, Tryd.results34, go_sem, z0, z1, z2]; try rfl) rfl ?_
    exact ⟨rfl, ⟨tk', q1, q2, HTZ.out⟩, HFZ.out⟩
set_option maxRecDepth 100000 in
set_option maxHeartbeats 4000000 in
theorem do_2 (B t lim : Nat) (l2 : List Nat) (d k bd : Nat) (E : Nat) (w : World) (hBw : B ≤ w.heap.size) (hr : d % 9 = 2)
    (HI0 : ∀ w', Nw w w' → Calls Tryd.prog 25 #[.pointer (some ⟨t, 0, none⟩), .int .u64 (k : Nat)] w' fun e w'' => e = .returned (.int .i64 (E : Nat)) ∧ (∃ tk' : Int, 0 ≤ tk' ∧ tk' ≤ bd ∧ TY w'' B t l2 lim tk') ∧ FT B w' w'') :
    Calls Tryd.prog 34 #[.pointer (some ⟨t, 0, none⟩), .agg #[.int .u8 (d : Nat), .int .u64 (k : Nat)]] w fun e w' => e = .returned (.agg #[.int .i64 ((E : Nat) : Int), .int .u64 0, .bool false]) ∧ (∃ tk' : Int, 0 ≤ tk' ∧ tk' ≤ bd ∧ TY w' B t l2 lim tk') ∧ FT B w w' := by
  have HI := Lib.hid HI0
  have HBW := Lib.hid hBw
  have hm : Int.tmod (d : Int) 9 = 2 := by rw [show (9 : Int) = ((9 : Nat) : Int) from rfl, tmod_nat, hr]; rfl
  clear hr HI0
  · go_enter Tryd.func34, Tryd.ntmps34
    go_wp2_with (first
      | (go_at_call 25; refine (HI.out _ ((((Fr.refl _ w).alloc _).alloc _).alloc _)).mono ?_; rintro e w4 ⟨rfl, ⟨tk', q1, q2, ht⟩, hf⟩; have HT4 := Lib.hid ht; have hb4 := hf.blk (blk_alloc (blk_new2 w _ _) (.cells #[.int .i64 0, .int .u64 0, .bool false] 57)) (fun e => trb_ty (blk_alloc (blk_new2 w _ _) _) (by decide) (by decide) (by decide) (by decide) (by decide) e.2); have hb5 := hf.blk (blk_new3 w (.cells #[.int .u8 d, .int .u64 k] 55) (.cells #[.int .i64 0, .int .u64 0, .bool false] 57) (.cells #[.int .i64 0, .int .u64 0, .bool false] 57)) (fun e => trb_ty (blk_new3 w _ _ _) (by decide) (by decide) (by decide) (by decide) (by decide) e.2); have HFA := Lib.hid ((FT.nw (B := B) ((((Fr.refl (fun _ => False) w).alloc (.cells #[.int .u8 d, .int .u64 k] 55)).alloc (.cells #[.int .i64 0, .int .u64 0, .bool false] 57)).alloc (.cells #[.int .i64 0, .int .u64 0, .bool false] 57))).trans hf); obtain ⟨r0, r1, r2⟩ := cells3 hb5; obtain ⟨s0, s1, s2⟩ := cells3 hb4; have g0 := blk_frozen hb5 0; have g1 := blk_frozen hb5 1; have g2 := blk_frozen hb5 2; have k0 := blk_frozen hb4 0; have k1 := blk_frozen hb4 1; have k2 := blk_frozen hb4 2; have HB4 := Lib.hid hb4; have HB5 := Lib.hid hb5; clear hf hb4 hb5; clear ht))
    have hb4 := ((Fr.refl (One (w.heap.size + 1 + 1)) w4).set (One.self _) 0 _ : Fr (One (w.heap.size + 1 + 1)) w4 (w4.setCell ⟨w.heap.size + 1 + 1, 0, none⟩ (.int .i64 (E : Nat)))).blk HB4.out (by simp only [One]; omega)
    have hB := blk_put3 hb4 (.int .i64 ((E : Nat) : Int)) (.int .u64 0) (.bool false)
    have hfz : Fr (fun q => q = w.heap.size + 1 ∨ q = w.heap.size + 1 + 1) w4 ((((w4.setCell ⟨w.heap.size + 1 + 1, 0, none⟩ (.int .i64 (E : Nat))).setCell ⟨(w.heap.size + 1), 0, none⟩ (.int .i64 ((E : Nat) : Int))).setCell ⟨(w.heap.size + 1), 1, none⟩ (.int .u64 0)).setCell ⟨(w.heap.size + 1), 2, none⟩ (.bool false)) := (((Fr.refl (One (w.heap.size + 1 + 1)) w4).set (One.self _) 0 _ : Fr (One (w.heap.size + 1 + 1)) w4 (w4.setCell ⟨w.heap.size + 1 + 1, 0, none⟩ (.int .i64 (E : Nat)))).mono (fun _ _ h => .inr h)).trans (((((Fr.refl _ _).set (.inl rfl) _ _).set (.inl rfl) _ _).set (.inl rfl) _ _))
    have HTZ := Lib.hid (HT4.out.fr hfz (fun q hq => by
      rcases hq with rfl | rfl
      · exact trb_ty HB4.out (by decide) (by decide) (by decide) (by decide) (by decide)
      · exact trb_ty HB5.out (by decide) (by decide) (by decide) (by decide) (by decide)))
    have HFZ : Hid (FT B w ((((w4.setCell ⟨w.heap.size + 1 + 1, 0, none⟩ (.int .i64 (E : Nat))).setCell ⟨(w.heap.size + 1), 0, none⟩ (.int .i64 ((E : Nat) : Int))).setCell ⟨(w.heap.size + 1), 1, none⟩ (.int .u64 0)).setCell ⟨(w.heap.size + 1), 2, none⟩ (.bool false))) := Lib.hid (HFA.out.trans_of hfz (fun q hq e => by rcases e with e | e <;> omega))
    generalize ((((w4.setCell ⟨w.heap.size + 1 + 1, 0, none⟩ (.int .i64 (E : Nat))).setCell ⟨(w.heap.size + 1), 0, none⟩ (.int .i64 ((E : Nat) : Int))).setCell ⟨(w.heap.size + 1), 1, none⟩ (.int .u64 0)).setCell ⟨(w.heap.size + 1), 2, none⟩ (.bool false)) = W9 at hB HTZ HFZ ⊢
    obtain ⟨z0, z1, z2⟩ := cells3 hB
    refine bodyPost_ret (by simp [results, Tryd.results34, go_sem, z0, z1, z2]; try rfl) rfl ?_
    exact ⟨rfl, ⟨tk', q1, q2, HTZ.out⟩, HFZ.out⟩
set_option maxRecDepth 100000 in
set_option maxHeartbeats 4000000 in
theorem do_3 (B t lim : Nat) (l2 : List Nat) (d k bd : Nat) (Y : Bool) (w : World) (hBw : B ≤ w.heap.size) (hr : d % 9 = 3)
    (HI0 : ∀ w', Nw w w' → Calls Tryd.prog 26 #[.pointer (some ⟨t, 0, none⟩), .int .u64 (k : Nat)] w' fun e w'' => e = .returned (.bool Y) ∧ (∃ tk' : Int, 0 ≤ tk' ∧ tk' ≤ bd ∧ TY w'' B t l2 lim tk') ∧ FT B w' w'') :
    Calls Tryd.prog 34 #[.pointer (some ⟨t, 0, none⟩), .agg #[.int .u8 (d : Nat), .int .u64 (k : Nat)]] w fun e w' => e = .returned (.agg #[.int .i64 0, .int .u64 0, .bool Y]) ∧ (∃ tk' : Int, 0 ≤ tk' ∧ tk' ≤ bd ∧ TY w' B t l2 lim tk') ∧ FT B w w' := by
  have HI := Lib.hid HI0
  have HBW := Lib.hid hBw
  have hm : Int.tmod (d : Int) 9 = 3 := by rw [show (9 : Int) = ((9 : Nat) : Int) from rfl, tmod_nat, hr]; rfl
  clear hr HI0
  · go_enter Tryd.func34, Tryd.ntmps34
    go_wp2_with (first
      | (go_at_call 26; refine (HI.out _ ((((Fr.refl _ w).alloc _).alloc _).alloc _)).mono ?_; rintro e w4 ⟨rfl, ⟨tk', q1, q2, ht⟩, hf⟩; have HT4 := Lib.hid ht; have hb4 := hf.blk (blk_alloc (blk_new2 w _ _) (.cells #[.int .i64 0, .int .u64 0, .bool false] 57)) (fun e => trb_ty (blk_alloc (blk_new2 w _ _) _) (by decide) (by decide) (by decide) (by decide) (by decide) e.2); have hb5 := hf.blk (blk_new3 w (.cells #[.int .u8 d, .int .u64 k] 55) (.cells #[.int .i64 0, .int .u64 0, .bool false] 57) (.cells #[.int .i64 0, .int .u64 0, .bool false] 57)) (fun e => trb_ty (blk_new3 w _ _ _) (by decide) (by decide) (by decide) (by decide) (by decide) e.2); have HFA := Lib.hid ((FT.nw (B := B) ((((Fr.refl (fun _ => False) w).alloc (.cells #[.int .u8 d, .int .u64 k] 55)).alloc (.cells #[.int .i64 0, .int .u64 0, .bool false] 57)).alloc (.cells #[.int .i64 0, .int .u64 0, .bool false] 57))).trans hf); obtain ⟨r0, r1, r2⟩ := cells3 hb5; obtain ⟨s0, s1, s2⟩ := cells3 hb4; have g0 := blk_frozen hb5 0; have g1 := blk_frozen hb5 1; have g2 := blk_frozen hb5 2; have k0 := blk_frozen hb4 0; have k1 := blk_frozen hb4 1; have k2 := blk_frozen hb4 2; have HB4 := Lib.hid hb4; have HB5 := Lib.hid hb5; clear hf hb4 hb5; clear ht))
    have hb4 := ((Fr.refl (One (w.heap.size + 1 + 1)) w4).set (One.self _) 2 _ : Fr (One (w.heap.size + 1 + 1)) w4 (w4.setCell ⟨w.heap.size + 1 + 1, 2, none⟩ (.bool Y))).blk HB4.out (by simp only [One]; omega)
    have hB := blk_put3 hb4 (.int .i64 0) (.int .u64 0) (.bool Y)
    have hfz : Fr (fun q => q = w.heap.size + 1 ∨ q = w.heap.size + 1 + 1) w4 ((((w4.setCell ⟨w.heap.size + 1 + 1, 2, none⟩ (.bool Y)).setCell ⟨(w.heap.size + 1), 0, none⟩ (.int .i64 0)).setCell ⟨(w.heap.size + 1), 1, none⟩ (.int .u64 0)).setCell ⟨(w.heap.size + 1), 2, none⟩ (.bool Y)) := (((Fr.refl (One (w.heap.size + 1 + 1)) w4).set (One.self _) 2 _ : Fr (One (w.heap.size + 1 + 1)) w4 (w4.setCell ⟨w.heap.size + 1 + 1, 2, none⟩ (.bool Y))).mono (fun _ _ h => .inr h)).trans (((((Fr.refl _ _).set (.inl rfl) _ _).set (.inl rfl) _ _).set (.inl rfl) _ _))
    have HTZ := Lib.hid (HT4.out.fr hfz (fun q hq => by
      rcases hq with rfl | rfl
      · exact trb_ty HB4.out (by decide) (by decide) (by decide) (by decide) (by decide)
      · exact trb_ty HB5.out (by decide) (by decide) (by decide) (by decide) (by decide)))
    have HFZ : Hid (FT B w ((((w4.setCell ⟨w.heap.size + 1 + 1, 2, none⟩ (.bool Y)).setCell ⟨(w.heap.size + 1), 0, none⟩ (.int .i64 0)).setCell ⟨(w.heap.size + 1), 1, none⟩ (.int .u64 0)).setCell ⟨(w.heap.size + 1), 2, none⟩ (.bool Y))) := Lib.hid (HFA.out.trans_of hfz (fun q hq e => by rcases e with e | e <;> omega))
    generalize ((((w4.setCell ⟨w.heap.size + 1 + 1, 2, none⟩ (.bool Y)).setCell ⟨(w.heap.size + 1), 0, none⟩ (.int .i64 0)).setCell ⟨(w.heap.size + 1), 1, none⟩ (.int .u64 0)).setCell ⟨(w.heap.size + 1), 2, none⟩ (.bool Y)) = W9 at hB HTZ HFZ ⊢
    obtain ⟨z0, z1, z2⟩ := cells3 hB
    refine bodyPost_ret (by simp [results, Tryd.results34, go_sem, z0, z1, z2]; try rfl) rfl ?_
    exact ⟨rfl, ⟨tk', q1, q2, HTZ.out⟩, HFZ.out⟩
set_option maxRecDepth 100000 in
set_option maxHeartbeats 4000000 in
theorem do_4 (B t lim : Nat) (l2 : List Nat) (d k bd : Nat) (K : Nat) (Y : Bool) (w : World) (hBw : B ≤ w.heap.size) (hr : d % 9 = 4)
    (HI0 : ∀ w', Nw w w' → Calls Tryd.prog 14 #[.pointer (some ⟨t, 0, none⟩), .int .u64 (k : Nat)] w' fun e w'' => e = .returned (.tuple #[.int .u64 (K : Nat), .bool Y]) ∧ (∃ tk' : Int, 0 ≤ tk' ∧ tk' ≤ bd ∧ TY w'' B t l2 lim tk') ∧ FT B w' w'') :
    Calls Tryd.prog 34 #[.pointer (some ⟨t, 0, none⟩), .agg #[.int .u8 (d : Nat), .int .u64 (k : Nat)]] w fun e w' => e = .returned (.agg #[.int .i64 0, .int .u64 ((K : Nat) : Int), .bool Y]) ∧ (∃ tk' : Int, 0 ≤ tk' ∧ tk' ≤ bd ∧ TY w' B t l2 lim tk') ∧ FT B w w' := by
  have HI := Lib.hid HI0
  have HBW := Lib.hid hBw
  have hm : Int.tmod (d : Int) 9 = 4 := by rw [show (9 : Int) = ((9 : Nat) : Int) from rfl, tmod_nat, hr]; rfl
  clear hr HI0
  · go_enter Tryd.func34, Tryd.ntmps34
    go_wp2_with (first
      | (go_at_call 14; refine (HI.out _ ((((Fr.refl _ w).alloc _).alloc _).alloc _)).mono ?_; rintro e w4 ⟨rfl, ⟨tk', q1, q2, ht⟩, hf⟩; have HT4 := Lib.hid ht; have hb4 := hf.blk (blk_alloc (blk_new2 w _ _) (.cells #[.int .i64 0, .int .u64 0, .bool false] 57)) (fun e => trb_ty (blk_alloc (blk_new2 w _ _) _) (by decide) (by decide) (by decide) (by decide) (by decide) e.2); have hb5 := hf.blk (blk_new3 w (.cells #[.int .u8 d, .int .u64 k] 55) (.cells #[.int .i64 0, .int .u64 0, .bool false] 57) (.cells #[.int .i64 0, .int .u64 0, .bool false] 57)) (fun e => trb_ty (blk_new3 w _ _ _) (by decide) (by decide) (by decide) (by decide) (by decide) e.2); have HFA := Lib.hid ((FT.nw (B := B) ((((Fr.refl (fun _ => False) w).alloc (.cells #[.int .u8 d, .int .u64 k] 55)).alloc (.cells #[.int .i64 0, .int .u64 0, .bool false] 57)).alloc (.cells #[.int .i64 0, .int .u64 0, .bool false] 57))).trans hf); obtain ⟨r0, r1, r2⟩ := cells3 hb5; obtain ⟨s0, s1, s2⟩ := cells3 hb4; have g0 := blk_frozen hb5 0; have g1 := blk_frozen hb5 1; have g2 := blk_frozen hb5 2; have k0 := blk_frozen hb4 0; have k1 := blk_frozen hb4 1; have k2 := blk_frozen hb4 2; have HB4 := Lib.hid hb4; have HB5 := Lib.hid hb5; clear hf hb4 hb5; clear ht))
    have hb4 := (((Fr.refl (One (w.heap.size + 1 + 1)) w4).set (One.self _) 1 _).set (One.self _) 2 _ : Fr (One (w.heap.size + 1 + 1)) w4 ((w4.setCell ⟨w.heap.size + 1 + 1, 1, none⟩ (.int .u64 (K : Nat))).setCell ⟨w.heap.size + 1 + 1, 2, none⟩ (.bool Y))).blk HB4.out (by simp only [One]; omega)
    have hB := blk_put3 hb4 (.int .i64 0) (.int .u64 ((K : Nat) : Int)) (.bool Y)
    have hfz : Fr (fun q => q = w.heap.size + 1 ∨ q = w.heap.size + 1 + 1) w4 (((((w4.setCell ⟨w.heap.size + 1 + 1, 1, none⟩ (.int .u64 (K : Nat))).setCell ⟨w.heap.size + 1 + 1, 2, none⟩ (.bool Y)).setCell ⟨(w.heap.size + 1), 0, none⟩ (.int .i64 0)).setCell ⟨(w.heap.size + 1), 1, none⟩ (.int .u64 ((K : Nat) : Int))).setCell ⟨(w.heap.size + 1), 2, none⟩ (.bool Y)) := ((((Fr.refl (One (w.heap.size + 1 + 1)) w4).set (One.self _) 1 _).set (One.self _) 2 _ : Fr (One (w.heap.size + 1 + 1)) w4 ((w4.setCell ⟨w.heap.size + 1 + 1, 1, none⟩ (.int .u64 (K : Nat))).setCell ⟨w.heap.size + 1 + 1, 2, none⟩ (.bool Y))).mono (fun _ _ h => .inr h)).trans (((((Fr.refl _ _).set (.inl rfl) _ _).set (.inl rfl) _ _).set (.inl rfl) _ _))
    have HTZ := Lib.hid (HT4.out.fr hfz (fun q hq => by
      rcases hq with rfl | rfl
      · exact trb_ty HB4.out (by decide) (by decide) (by decide) (by decide) (by decide)
      · exact trb_ty HB5.out (by decide) (by decide) (by decide) (by decide) (by decide)))
    have HFZ : Hid (FT B w (((((w4.setCell ⟨w.heap.size + 1 + 1, 1, none⟩ (.int .u64 (K : Nat))).setCell ⟨w.heap.size + 1 + 1, 2, none⟩ (.bool Y)).setCell ⟨(w.heap.size + 1), 0, none⟩ (.int .i64 0)).setCell ⟨(w.heap.size + 1), 1, none⟩ (.int .u64 ((K : Nat) : Int))).setCell ⟨(w.heap.size + 1), 2, none⟩ (.bool Y))) := Lib.hid (HFA.out.trans_of hfz (fun q hq e => by rcases e with e | e <;> omega))
    generalize (((((w4.setCell ⟨w.heap.size + 1 + 1, 1, none⟩ (.int .u64 (K : Nat))).setCell ⟨w.heap.size + 1 + 1, 2, none⟩ (.bool Y)).setCell ⟨(w.heap.size + 1), 0, none⟩ (.int .i64 0)).setCell ⟨(w.heap.size + 1), 1, none⟩ (.int .u64 ((K : Nat) : Int))).setCell ⟨(w.heap.size + 1), 2, none⟩ (.bool Y)) = W9 at hB HTZ HFZ ⊢
    obtain ⟨z0, z1, z2⟩ := cells3 hB
    refine bodyPost_ret (by simp [results, Tryd.results34, go_sem, z0, z1, z2]; try rfl) rfl ?_
    exact ⟨rfl, ⟨tk', q1, q2, HTZ.out⟩, HFZ.out⟩
set_option maxRecDepth 100000 in
set_option maxHeartbeats 4000000 in
theorem do_5 (B t lim : Nat) (l2 : List Nat) (d k bd : Nat) (K : Nat) (Y : Bool) (w : World) (hBw : B ≤ w.heap.size) (hr : d % 9 = 5)
    (HI0 : ∀ w', Nw w w' → Calls Tryd.prog 15 #[.pointer (some ⟨t, 0, none⟩), .int .u64 (k : Nat)] w' fun e w'' => e = .returned (.tuple #[.int .u64 (K : Nat), .bool Y]) ∧ (∃ tk' : Int, 0 ≤ tk' ∧ tk' ≤ bd ∧ TY w'' B t l2 lim tk') ∧ FT B w' w'') :
    Calls Tryd.prog 34 #[.pointer (some ⟨t, 0, none⟩), .agg #[.int .u8 (d : Nat), .int .u64 (k : Nat)]] w fun e w' => e = .returned (.agg #[.int .i64 0, .int .u64 ((K : Nat) : Int), .bool Y]) ∧ (∃ tk' : Int, 0 ≤ tk' ∧ tk' ≤ bd ∧ TY w' B t l2 lim tk') ∧ FT B w w' := by
  have HI := Lib.hid HI0
  have HBW := Lib.hid hBw
  have hm : Int.tmod (d : Int) 9 = 5 := by rw [show (9 : Int) = ((9 : Nat) : Int) from rfl, tmod_nat, hr]; rfl
  clear hr HI0
  · go_enter Tryd.func34, Tryd.ntmps34
    go_wp2_with (first
      | (go_at_call 15; refine (HI.out _ ((((Fr.refl _ w).alloc _).alloc _).alloc _)).mono ?_; rintro e w4 ⟨rfl, ⟨tk', q1, q2, ht⟩, hf⟩; have HT4 := Lib.hid ht; have hb4 := hf.blk (blk_alloc (blk_new2 w _ _) (.cells #[.int .i64 0, .int .u64 0, .bool false] 57)) (fun e => trb_ty (blk_alloc (blk_new2 w _ _) _) (by decide) (by decide) (by decide) (by decide) (by decide) e.2); have hb5 := hf.blk (blk_new3 w (.cells #[.int .u8 d, .int .u64 k] 55) (.cells #[.int .i64 0, .int .u64 0, .bool false] 57) (.cells #[.int .i64 0, .int .u64 0, .bool false] 57)) (fun e => trb_ty (blk_new3 w _ _ _) (by decide) (by decide) (by decide) (by decide) (by decide) e.2); have HFA := Lib.hid ((FT.nw (B := B) ((((Fr.refl (fun _ => False) w).alloc (.cells #[.int .u8 d, .int .u64 k] 55)).alloc (.cells #[.int .i64 0, .int .u64 0, .bool false] 57)).alloc (.cells #[.int .i64 0, .int .u64 0, .bool false] 57))).trans hf); obtain ⟨r0, r1, r2⟩ := cells3 hb5; obtain ⟨s0, s1, s2⟩ := cells3 hb4; have g0 := blk_frozen hb5 0; have g1 := blk_frozen hb5 1; have g2 := blk_frozen hb5 2; have k0 := blk_frozen hb4 0; have k1 := blk_frozen hb4 1; have k2 := blk_frozen hb4 2; have HB4 := Lib.hid hb4; have HB5 := Lib.hid hb5; clear hf hb4 hb5; clear ht))
    have hb4 := (((Fr.refl (One (w.heap.size + 1 + 1)) w4).set (One.self _) 1 _).set (One.self _) 2 _ : Fr (One (w.heap.size + 1 + 1)) w4 ((w4.setCell ⟨w.heap.size + 1 + 1, 1, none⟩ (.int .u64 (K : Nat))).setCell ⟨w.heap.size + 1 + 1, 2, none⟩ (.bool Y))).blk HB4.out (by simp only [One]; omega)
    have hB := blk_put3 hb4 (.int .i64 0) (.int .u64 ((K : Nat) : Int)) (.bool Y)
    have hfz : Fr (fun q => q = w.heap.size + 1 ∨ q = w.heap.size + 1 + 1) w4 (((((w4.setCell ⟨w.heap.size + 1 + 1, 1, none⟩ (.int .u64 (K : Nat))).setCell ⟨w.heap.size + 1 + 1, 2, none⟩ (.bool Y)).setCell ⟨(w.heap.size + 1), 0, none⟩ (.int .i64 0)).setCell ⟨(w.heap.size + 1), 1, none⟩ (.int .u64 ((K : Nat) : Int))).setCell ⟨(w.heap.size + 1), 2, none⟩ (.bool Y)) := ((((Fr.refl (One (w.heap.size + 1 + 1)) w4).set (One.self _) 1 _).set (One.self _) 2 _ : Fr (One (w.heap.size + 1 + 1)) w4 ((w4.setCell ⟨w.heap.size + 1 + 1, 1, none⟩ (.int .u64 (K : Nat))).setCell ⟨w.heap.size + 1 + 1, 2, none⟩ (.bool Y))).mono (fun _ _ h => .inr h)).trans (((((Fr.refl _ _).set (.inl rfl) _ _).set (.inl rfl) _ _).set (.inl rfl) _ _))
    have HTZ := Lib.hid (HT4.out.fr hfz (fun q hq => by
      rcases hq with rfl | rfl
      · exact trb_ty HB4.out (by decide) (by decide) (by decide) (by decide) (by decide)
      · exact trb_ty HB5.out (by decide) (by decide) (by decide) (by decide) (by decide)))
    have HFZ : Hid (FT B w (((((w4.setCell ⟨w.heap.size + 1 + 1, 1, none⟩ (.int .u64 (K : Nat))).setCell ⟨w.heap.size + 1 + 1, 2, none⟩ (.bool Y)).setCell ⟨(w.heap.size + 1), 0, none⟩ (.int .i64 0)).setCell ⟨(w.heap.size + 1), 1, none⟩ (.int .u64 ((K : Nat) : Int))).setCell ⟨(w.heap.size + 1), 2, none⟩ (.bool Y))) := Lib.hid (HFA.out.trans_of hfz (fun q hq e => by rcases e with e | e <;> omega))
    generalize (((((w4.setCell ⟨w.heap.size + 1 + 1, 1, none⟩ (.int .u64 (K : Nat))).setCell ⟨w.heap.size + 1 + 1, 2, none⟩ (.bool Y)).setCell ⟨(w.heap.size + 1), 0, none⟩ (.int .i64 0)).setCell ⟨(w.heap.size + 1), 1, none⟩ (.int .u64 ((K : Nat) : Int))).setCell ⟨(w.heap.size + 1), 2, none⟩ (.bool Y)) = W9 at hB HTZ HFZ ⊢
    obtain ⟨z0, z1, z2⟩ := cells3 hB
    refine bodyPost_ret (by simp [results, Tryd.results34, go_sem, z0, z1, z2]; try rfl) rfl ?_
    exact ⟨rfl, ⟨tk', q1, q2, HTZ.out⟩, HFZ.out⟩
set_option maxRecDepth 100000 in
set_option maxHeartbeats 4000000 in
theorem do_6 (B t lim : Nat) (l2 : List Nat) (d k bd : Nat) (K : Nat) (Y : Bool) (w : World) (hBw : B ≤ w.heap.size) (hr : d % 9 = 6)
    (HI0 : ∀ w', Nw w w' → Calls Tryd.prog 27 #[.pointer (some ⟨t, 0, none⟩)] w' fun e w'' => e = .returned (.tuple #[.int .u64 (K : Nat), .bool Y]) ∧ (∃ tk' : Int, 0 ≤ tk' ∧ tk' ≤ bd ∧ TY w'' B t l2 lim tk') ∧ FT B w' w'') :
    Calls Tryd.prog 34 #[.pointer (some ⟨t, 0, none⟩), .agg #[.int .u8 (d : Nat), .int .u64 (k : Nat)]] w fun e w' => e = .returned (.agg #[.int .i64 0, .int .u64 ((K : Nat) : Int), .bool Y]) ∧ (∃ tk' : Int, 0 ≤ tk' ∧ tk' ≤ bd ∧ TY w' B t l2 lim tk') ∧ FT B w w' := by
  have HI := Lib.hid HI0
  have HBW := Lib.hid hBw
  have hm : Int.tmod (d : Int) 9 = 6 := by rw [show (9 : Int) = ((9 : Nat) : Int) from rfl, tmod_nat, hr]; rfl
  clear hr HI0
  · go_enter Tryd.func34, Tryd.ntmps34
    go_wp2_with (first
      | (go_at_call 27; refine (HI.out _ ((((Fr.refl _ w).alloc _).alloc _).alloc _)).mono ?_; rintro e w4 ⟨rfl, ⟨tk', q1, q2, ht⟩, hf⟩; have HT4 := Lib.hid ht; have hb4 := hf.blk (blk_alloc (blk_new2 w _ _) (.cells #[.int .i64 0, .int .u64 0, .bool false] 57)) (fun e => trb_ty (blk_alloc (blk_new2 w _ _) _) (by decide) (by decide) (by decide) (by decide) (by decide) e.2); have hb5 := hf.blk (blk_new3 w (.cells #[.int .u8 d, .int .u64 k] 55) (.cells #[.int .i64 0, .int .u64 0, .bool false] 57) (.cells #[.int .i64 0, .int .u64 0, .bool false] 57)) (fun e => trb_ty (blk_new3 w _ _ _) (by decide) (by decide) (by decide) (by decide) (by decide) e.2); have HFA := Lib.hid ((FT.nw (B := B) ((((Fr.refl (fun _ => False) w).alloc (.cells #[.int .u8 d, .int .u64 k] 55)).alloc (.cells #[.int .i64 0, .int .u64 0, .bool false] 57)).alloc (.cells #[.int .i64 0, .int .u64 0, .bool false] 57))).trans hf); obtain ⟨r0, r1, r2⟩ := cells3 hb5; obtain ⟨s0, s1, s2⟩ := cells3 hb4; have g0 := blk_frozen hb5 0; have g1 := blk_frozen hb5 1; have g2 := blk_frozen hb5 2; have k0 := blk_frozen hb4 0; have k1 := blk_frozen hb4 1; have k2 := blk_frozen hb4 2; have HB4 := Lib.hid hb4; have HB5 := Lib.hid hb5; clear hf hb4 hb5; clear ht))
    have hb4 := (((Fr.refl (One (w.heap.size + 1 + 1)) w4).set (One.self _) 1 _).set (One.self _) 2 _ : Fr (One (w.heap.size + 1 + 1)) w4 ((w4.setCell ⟨w.heap.size + 1 + 1, 1, none⟩ (.int .u64 (K : Nat))).setCell ⟨w.heap.size + 1 + 1, 2, none⟩ (.bool Y))).blk HB4.out (by simp only [One]; omega)
    have hB := blk_put3 hb4 (.int .i64 0) (.int .u64 ((K : Nat) : Int)) (.bool Y)
    have hfz : Fr (fun q => q = w.heap.size + 1 ∨ q = w.heap.size + 1 + 1) w4 (((((w4.setCell ⟨w.heap.size + 1 + 1, 1, none⟩ (.int .u64 (K : Nat))).setCell ⟨w.heap.size + 1 + 1, 2, none⟩ (.bool Y)).setCell ⟨(w.heap.size + 1), 0, none⟩ (.int .i64 0)).setCell ⟨(w.heap.size + 1), 1, none⟩ (.int .u64 ((K : Nat) : Int))).setCell ⟨(w.heap.size + 1), 2, none⟩ (.bool Y)) := ((((Fr.refl (One (w.heap.size + 1 + 1)) w4).set (One.self _) 1 _).set (One.self _) 2 _ : Fr (One (w.heap.size + 1 + 1)) w4 ((w4.setCell ⟨w.heap.size + 1 + 1, 1, none⟩ (.int .u64 (K : Nat))).setCell ⟨w.heap.size + 1 + 1, 2, none⟩ (.bool Y))).mono (fun _ _ h => .inr h)).trans (((((Fr.refl _ _).set (.inl rfl) _ _).set (.inl rfl) _ _).set (.inl rfl) _ _))
    have HTZ := Lib.hid (HT4.out.fr hfz (fun q hq => by
      rcases hq with rfl | rfl
      · exact trb_ty HB4.out (by decide) (by decide) (by decide) (by decide) (by decide)
      · exact trb_ty HB5.out (by decide) (by decide) (by decide) (by decide) (by decide)))
    have HFZ : Hid (FT B w (((((w4.setCell ⟨w.heap.size + 1 + 1, 1, none⟩ (.int .u64 (K : Nat))).setCell ⟨w.heap.size + 1 + 1, 2, none⟩ (.bool Y)).setCell ⟨(w.heap.size + 1), 0, none⟩ (.int .i64 0)).setCell ⟨(w.heap.size + 1), 1, none⟩ (.int .u64 ((K : Nat) : Int))).setCell ⟨(w.heap.size + 1), 2, none⟩ (.bool Y))) := Lib.hid (HFA.out.trans_of hfz (fun q hq e => by rcases e with e | e <;> omega))
    generalize (((((w4.setCell ⟨w.heap.size + 1 + 1, 1, none⟩ (.int .u64 (K : Nat))).setCell ⟨w.heap.size + 1 + 1, 2, none⟩ (.bool Y)).setCell ⟨(w.heap.size + 1), 0, none⟩ (.int .i64 0)).setCell ⟨(w.heap.size + 1), 1, none⟩ (.int .u64 ((K : Nat) : Int))).setCell ⟨(w.heap.size + 1), 2, none⟩ (.bool Y)) = W9 at hB HTZ HFZ ⊢
    obtain ⟨z0, z1, z2⟩ := cells3 hB
    refine bodyPost_ret (by simp [results, Tryd.results34, go_sem, z0, z1, z2]; try rfl) rfl ?_
    exact ⟨rfl, ⟨tk', q1, q2, HTZ.out⟩, HFZ.out⟩
set_option maxRecDepth 100000 in
set_option maxHeartbeats 4000000 in
theorem do_7 (B t lim : Nat) (l2 : List Nat) (d k bd : Nat) (K : Nat) (Y : Bool) (w : World) (hBw : B ≤ w.heap.size) (hr : d % 9 = 7)
    (HI0 : ∀ w', Nw w w' → Calls Tryd.prog 28 #[.pointer (some ⟨t, 0, none⟩)] w' fun e w'' => e = .returned (.tuple #[.int .u64 (K : Nat), .bool Y]) ∧ (∃ tk' : Int, 0 ≤ tk' ∧ tk' ≤ bd ∧ TY w'' B t l2 lim tk') ∧ FT B w' w'') :
    Calls Tryd.prog 34 #[.pointer (some ⟨t, 0, none⟩), .agg #[.int .u8 (d : Nat), .int .u64 (k : Nat)]] w fun e w' => e = .returned (.agg #[.int .i64 0, .int .u64 ((K : Nat) : Int), .bool Y]) ∧ (∃ tk' : Int, 0 ≤ tk' ∧ tk' ≤ bd ∧ TY w' B t l2 lim tk') ∧ FT B w w' := by
  have HI := Lib.hid HI0
  have HBW := Lib.hid hBw
  have hm : Int.tmod (d : Int) 9 = 7 := by rw [show (9 : Int) = ((9 : Nat) : Int) from rfl, tmod_nat, hr]; rfl
  clear hr HI0
  · go_enter Tryd.func34, Tryd.ntmps34
    go_wp2_with (first
      | (go_at_call 28; refine (HI.out _ ((((Fr.refl _ w).alloc _).alloc _).alloc _)).mono ?_; rintro e w4 ⟨rfl, ⟨tk', q1, q2, ht⟩, hf⟩; have HT4 := Lib.hid ht; have hb4 := hf.blk (blk_alloc (blk_new2 w _ _) (.cells #[.int .i64 0, .int .u64 0, .bool false] 57)) (fun e => trb_ty (blk_alloc (blk_new2 w _ _) _) (by decide) (by decide) (by decide) (by decide) (by decide) e.2); have hb5 := hf.blk (blk_new3 w (.cells #[.int .u8 d, .int .u64 k] 55) (.cells #[.int .i64 0, .int .u64 0, .bool false] 57) (.cells #[.int .i64 0, .int .u64 0, .bool false] 57)) (fun e => trb_ty (blk_new3 w _ _ _) (by decide) (by decide) (by decide) (by decide) (by decide) e.2); have HFA := Lib.hid ((FT.nw (B := B) ((((Fr.refl (fun _ => False) w).alloc (.cells #[.int .u8 d, .int .u64 k] 55)).alloc (.cells #[.int .i64 0, .int .u64 0, .bool false] 57)).alloc (.cells #[.int .i64 0, .int .u64 0, .bool false] 57))).trans hf); obtain ⟨r0, r1, r2⟩ := cells3 hb5; obtain ⟨s0, s1, s2⟩ := cells3 hb4; have g0 := blk_frozen hb5 0; have g1 := blk_frozen hb5 1; have g2 := blk_frozen hb5 2; have k0 := blk_frozen hb4 0; have k1 := blk_frozen hb4 1; have k2 := blk_frozen hb4 2; have HB4 := Lib.hid hb4; have HB5 := Lib.hid hb5; clear hf hb4 hb5; clear ht))
    have hb4 := (((Fr.refl (One (w.heap.size + 1 + 1)) w4).set (One.self _) 1 _).set (One.self _) 2 _ : Fr (One (w.heap.size + 1 + 1)) w4 ((w4.setCell ⟨w.heap.size + 1 + 1, 1, none⟩ (.int .u64 (K : Nat))).setCell ⟨w.heap.size + 1 + 1, 2, none⟩ (.bool Y))).blk HB4.out (by simp only [One]; omega)
    have hB := blk_put3 hb4 (.int .i64 0) (.int .u64 ((K : Nat) : Int)) (.bool Y)
    have hfz : Fr (fun q => q = w.heap.size + 1 ∨ q = w.heap.size + 1 + 1) w4 (((((w4.setCell ⟨w.heap.size + 1 + 1, 1, none⟩ (.int .u64 (K : Nat))).setCell ⟨w.heap.size + 1 + 1, 2, none⟩ (.bool Y)).setCell ⟨(w.heap.size + 1), 0, none⟩ (.int .i64 0)).setCell ⟨(w.heap.size + 1), 1, none⟩ (.int .u64 ((K : Nat) : Int))).setCell ⟨(w.heap.size + 1), 2, none⟩ (.bool Y)) := ((((Fr.refl (One (w.heap.size + 1 + 1)) w4).set (One.self _) 1 _).set (One.self _) 2 _ : Fr (One (w.heap.size + 1 + 1)) w4 ((w4.setCell ⟨w.heap.size + 1 + 1, 1, none⟩ (.int .u64 (K : Nat))).setCell ⟨w.heap.size + 1 + 1, 2, none⟩ (.bool Y))).mono (fun _ _ h => .inr h)).trans (((((Fr.refl _ _).set (.inl rfl) _ _).set (.inl rfl) _ _).set (.inl rfl) _ _))
    have HTZ := Lib.hid (HT4.out.fr hfz (fun q hq => by
      rcases hq with rfl | rfl
      · exact trb_ty HB4.out (by decide) (by decide) (by decide) (by decide) (by decide)
      · exact trb_ty HB5.out (by decide) (by decide) (by decide) (by decide) (by decide)))
    have HFZ : Hid (FT B w (((((w4.setCell ⟨w.heap.size + 1 + 1, 1, none⟩ (.int .u64 (K : Nat))).setCell ⟨w.heap.size + 1 + 1, 2, none⟩ (.bool Y)).setCell ⟨(w.heap.size + 1), 0, none⟩ (.int .i64 0)).setCell ⟨(w.heap.size + 1), 1, none⟩ (.int .u64 ((K : Nat) : Int))).setCell ⟨(w.heap.size + 1), 2, none⟩ (.bool Y))) := Lib.hid (HFA.out.trans_of hfz (fun q hq e => by rcases e with e | e <;> omega))
    generalize (((((w4.setCell ⟨w.heap.size + 1 + 1, 1, none⟩ (.int .u64 (K : Nat))).setCell ⟨w.heap.size + 1 + 1, 2, none⟩ (.bool Y)).setCell ⟨(w.heap.size + 1), 0, none⟩ (.int .i64 0)).setCell ⟨(w.heap.size + 1), 1, none⟩ (.int .u64 ((K : Nat) : Int))).setCell ⟨(w.heap.size + 1), 2, none⟩ (.bool Y)) = W9 at hB HTZ HFZ ⊢
    obtain ⟨z0, z1, z2⟩ := cells3 hB
    refine bodyPost_ret (by simp [results, Tryd.results34, go_sem, z0, z1, z2]; try rfl) rfl ?_
    exact ⟨rfl, ⟨tk', q1, q2, HTZ.out⟩, HFZ.out⟩
set_option maxRecDepth 100000 in
set_option maxHeartbeats 4000000 in
theorem do_8 (B t lim : Nat) (l2 : List Nat) (d k bd : Nat)  (w : World) (hBw : B ≤ w.heap.size) (hr : d % 9 = 8)
    (HI0 : ∀ w', Nw w w' → Calls Tryd.prog 29 #[.pointer (some ⟨t, 0, none⟩)] w' fun e w'' => e = .returned (.tuple #[]) ∧ (∃ tk' : Int, 0 ≤ tk' ∧ tk' ≤ bd ∧ TY w'' B t l2 lim tk') ∧ FT B w' w'') :
    Calls Tryd.prog 34 #[.pointer (some ⟨t, 0, none⟩), .agg #[.int .u8 (d : Nat), .int .u64 (k : Nat)]] w fun e w' => e = .returned (.agg #[.int .i64 0, .int .u64 0, .bool false]) ∧ (∃ tk' : Int, 0 ≤ tk' ∧ tk' ≤ bd ∧ TY w' B t l2 lim tk') ∧ FT B w w' := by
  have HI := Lib.hid HI0
  have HBW := Lib.hid hBw
  have hm : Int.tmod (d : Int) 9 = 8 := by rw [show (9 : Int) = ((9 : Nat) : Int) from rfl, tmod_nat, hr]; rfl
  clear hr HI0
  · go_enter Tryd.func34, Tryd.ntmps34
    go_wp2_with (first
      | (go_at_call 29; refine (HI.out _ ((((Fr.refl _ w).alloc _).alloc _).alloc _)).mono ?_; rintro e w4 ⟨rfl, ⟨tk', q1, q2, ht⟩, hf⟩; have HT4 := Lib.hid ht; have hb4 := hf.blk (blk_alloc (blk_new2 w _ _) (.cells #[.int .i64 0, .int .u64 0, .bool false] 57)) (fun e => trb_ty (blk_alloc (blk_new2 w _ _) _) (by decide) (by decide) (by decide) (by decide) (by decide) e.2); have hb5 := hf.blk (blk_new3 w (.cells #[.int .u8 d, .int .u64 k] 55) (.cells #[.int .i64 0, .int .u64 0, .bool false] 57) (.cells #[.int .i64 0, .int .u64 0, .bool false] 57)) (fun e => trb_ty (blk_new3 w _ _ _) (by decide) (by decide) (by decide) (by decide) (by decide) e.2); have HFA := Lib.hid ((FT.nw (B := B) ((((Fr.refl (fun _ => False) w).alloc (.cells #[.int .u8 d, .int .u64 k] 55)).alloc (.cells #[.int .i64 0, .int .u64 0, .bool false] 57)).alloc (.cells #[.int .i64 0, .int .u64 0, .bool false] 57))).trans hf); obtain ⟨r0, r1, r2⟩ := cells3 hb5; obtain ⟨s0, s1, s2⟩ := cells3 hb4; have g0 := blk_frozen hb5 0; have g1 := blk_frozen hb5 1; have g2 := blk_frozen hb5 2; have k0 := blk_frozen hb4 0; have k1 := blk_frozen hb4 1; have k2 := blk_frozen hb4 2; have HB4 := Lib.hid hb4; have HB5 := Lib.hid hb5; clear hf hb4 hb5; clear ht))
    have hb4 := (Fr.refl (One (w.heap.size + 1 + 1)) w4 : Fr (One (w.heap.size + 1 + 1)) w4 w4).blk HB4.out (by simp only [One]; omega)
    have hB := blk_put3 hb4 (.int .i64 0) (.int .u64 0) (.bool false)
    have hfz : Fr (fun q => q = w.heap.size + 1 ∨ q = w.heap.size + 1 + 1) w4 (((w4.setCell ⟨(w.heap.size + 1), 0, none⟩ (.int .i64 0)).setCell ⟨(w.heap.size + 1), 1, none⟩ (.int .u64 0)).setCell ⟨(w.heap.size + 1), 2, none⟩ (.bool false)) := ((Fr.refl (One (w.heap.size + 1 + 1)) w4 : Fr (One (w.heap.size + 1 + 1)) w4 w4).mono (fun _ _ h => .inr h)).trans (((((Fr.refl _ _).set (.inl rfl) _ _).set (.inl rfl) _ _).set (.inl rfl) _ _))
    have HTZ := Lib.hid (HT4.out.fr hfz (fun q hq => by
      rcases hq with rfl | rfl
      · exact trb_ty HB4.out (by decide) (by decide) (by decide) (by decide) (by decide)
      · exact trb_ty HB5.out (by decide) (by decide) (by decide) (by decide) (by decide)))
    have HFZ : Hid (FT B w (((w4.setCell ⟨(w.heap.size + 1), 0, none⟩ (.int .i64 0)).setCell ⟨(w.heap.size + 1), 1, none⟩ (.int .u64 0)).setCell ⟨(w.heap.size + 1), 2, none⟩ (.bool false))) := Lib.hid (HFA.out.trans_of hfz (fun q hq e => by rcases e with e | e <;> omega))
    generalize (((w4.setCell ⟨(w.heap.size + 1), 0, none⟩ (.int .i64 0)).setCell ⟨(w.heap.size + 1), 1, none⟩ (.int .u64 0)).setCell ⟨(w.heap.size + 1), 2, none⟩ (.bool false)) = W9 at hB HTZ HFZ ⊢
    obtain ⟨z0, z1, z2⟩ := cells3 hB
    refine bodyPost_ret (by simp [results, Tryd.results34, go_sem, z0, z1, z2]; try rfl) rfl ?_
    exact ⟨rfl, ⟨tk', q1, q2, HTZ.out⟩, HFZ.out⟩
theorem nxt_ans (l : List Nat) (k : Nat) : nxtV l k = .tuple #[.int .u64 (((l[cntLt l k]?).getD 0 : Nat) : Int), .bool (l[cntLt l k]?).isSome] := rfl
theorem prv_ans (l : List Nat) (k : Nat) : prvV l k = .tuple #[.int .u64 (((if k ∈ l then k else if cntLt l k = 0 then 0 else (l[cntLt l k - 1]?).getD 0) : Nat) : Int), .bool (decide (k ∈ l) || decide (cntLt l k ≠ 0))] := by
  unfold prvV
  by_cases h : k ∈ l
  · rw [if_pos h, if_pos h]; simp [h]
  · rw [if_neg h, if_neg h]
    by_cases h0 : cntLt l k = 0
    · rw [if_pos h0, if_pos h0]; simp [h, h0]
    · rw [if_neg h0, if_neg h0]; simp [h, h0]
theorem bd_mono {a b : Nat} (h : a ≤ b) {P : Int → Prop} (hx : ∃ tk' : Int, 0 ≤ tk' ∧ tk' ≤ a ∧ P tk') : ∃ tk' : Int, 0 ≤ tk' ∧ tk' ≤ b ∧ P tk' := by
  obtain ⟨x, h1, h2, h3⟩ := hx
  exact ⟨x, h1, by omega, h3⟩
section
variable (B t lim : Nat) (l : List Nat) (tk : Int) (d k : Nat) (w : World) (h : TY w B t l lim tk) (hBw : B ≤ w.heap.size)
include h hBw
theorem do_calls (hT : Tb w) (hg : 0 < B) (hk : k < 18446744073709551616) (hlen : l.length + 1 ≤ 1000000) (h0 : 0 ≤ tk) (h1 : tk ≤ 1073741824) (hnf : ¬ FullA lim l (d % 9) k) :
    Calls Tryd.prog 34 #[.pointer (some ⟨t, 0, none⟩), .agg #[.int .u8 (d : Nat), .int .u64 (k : Nat)]] w fun e w' => e = .returned (.agg #[.int .i64 (((ansA l (d % 9) k).1.1 : Nat) : Int), .int .u64 (((ansA l (d % 9) k).1.2.1 : Nat) : Int), .bool ((ansA l (d % 9) k).1.2.2)]) ∧ (∃ tk' : Int, 0 ≤ tk' ∧ tk' ≤ (stepsN (d % 9) : Nat) ∧ TY w' B t (ansA l (d % 9) k).2 lim tk') ∧ FT B w w' := by
  have hb : ∀ w', Nw w w' → B ≤ w'.heap.size := fun w' hf => Nat.le_trans hBw hf.size
  have hlt : d % 9 < 9 := Nat.mod_lt _ (by decide)
  obtain ⟨r, hr⟩ : ∃ r, r = d % 9 := ⟨_, rfl⟩
  rw [← hr] at hnf hlt ⊢
  have hins : r < 2 → ∀ w', Nw w w' → Calls Tryd.prog 23 #[.pointer (some ⟨t, 0, none⟩), .int .u64 (k : Nat)] w' fun e w'' => e = .returned (.int .i64 ((ansA l r k).1.1 : Nat)) ∧ (∃ tk' : Int, 0 ≤ tk' ∧ tk' ≤ (stepsN r : Nat) ∧ TY w'' B t (ansA l r k).2 lim tk') ∧ FT B w' w'' := by
    intro hr2 w' hf
    have hs : stepsN r = 1073741824 := by
      have : r = 0 ∨ r = 1 := by omega
      rcases this with e | e <;> rw [e] <;> rfl
    have e1 : (ansA l r k).1.1 = (insE lim l k).1 ∧ (ansA l r k).2 = (insE lim l k).2 := by
      unfold ansA insE
      rw [if_pos hr2]
      by_cases hm : k ∈ l
      · rw [if_pos hm, if_pos hm]; exact ⟨rfl, rfl⟩
      · rw [if_neg hm, if_neg hm, if_pos (Nat.le_of_not_lt fun hu => hnf ⟨hr2, hm, hu⟩)]; exact ⟨rfl, rfl⟩
    rw [e1.1, e1.2, hs]
    exact (ty_insert B t lim l tk w' (h.nw hf) (hb w' hf) k hk hlen).mono (fun e w'' ⟨a, b, c⟩ => ⟨a, bd_mono (a := 22) (by omega) b, c⟩)
  have ha : r < 2 → (ansA l r k).1.2.1 = 0 ∧ (ansA l r k).1.2.2 = false := by
    intro hr2
    unfold ansA
    rw [if_pos hr2]
    by_cases hm : k ∈ l
    · rw [if_pos hm]; exact ⟨rfl, rfl⟩
    · rw [if_neg hm]; exact ⟨rfl, rfl⟩
  have : r = 0 ∨ r = 1 ∨ r = 2 ∨ r = 3 ∨ r = 4 ∨ r = 5 ∨ r = 6 ∨ r = 7 ∨ r = 8 := by omega
  rcases this with rfl | rfl | rfl | rfl | rfl | rfl | rfl | rfl | rfl
  · rw [(ha (by omega)).1, (ha (by omega)).2]
    exact do_0 B t lim _ d k _ _ w hBw hr.symm (hins (by omega))
  · rw [(ha (by omega)).1, (ha (by omega)).2]
    exact do_1 B t lim _ d k _ _ w hBw hr.symm (hins (by omega))
  · have e : (ansA l 2 k).1.1 = (delE l k).1 ∧ (ansA l 2 k).1.2.1 = 0 ∧ (ansA l 2 k).1.2.2 = false ∧ (ansA l 2 k).2 = (delE l k).2 := by
      unfold ansA delE
      by_cases hm : k ∈ l <;> simp [hm]
    rw [e.1, e.2.1, e.2.2.1, e.2.2.2]
    exact do_2 B t lim _ d k _ _ w hBw hr.symm (fun w' hf => (ty_delete B t lim l tk w' (h.nw hf) (hT.step hf) hg (hb w' hf) k hk).mono (fun e w'' ⟨a, b, c⟩ => ⟨a, bd_mono (a := 22) (by decide) b, c⟩))
  · exact do_3 B t lim _ d k _ _ w hBw hr.symm (fun w' hf => ty_has B t lim l tk w' (h.nw hf) k hk)
  · exact do_4 B t lim _ d k _ _ _ w hBw hr.symm (fun w' hf => by have := ty_next B t lim l tk w' (h.nw hf) (hT.step hf) k hk; rw [nxt_ans] at this; exact this)
  · exact do_5 B t lim _ d k _ _ _ w hBw hr.symm (fun w' hf => by have := ty_prev B t lim l tk w' (h.nw hf) k hk; rw [prv_ans] at this; exact this)
  · exact do_6 B t lim _ d k _ _ _ w hBw hr.symm (fun w' hf => ty_min B t lim l tk w' (h.nw hf))
  · exact do_7 B t lim _ d k _ _ _ w hBw hr.symm (fun w' hf => ty_max B t lim l tk w' (h.nw hf))
  · exact do_8 B t lim _ d k _ w hBw hr.symm (fun w' hf => (ty_clear B t lim l tk w' (h.nw hf)).mono (fun e w'' ⟨a, b, c⟩ => ⟨a, ⟨tk, h0, h1, b⟩, c⟩))
theorem do_full (hk : k < 18446744073709551616) (hlen : l.length + 1 ≤ 1000000) (hf : FullA lim l (d % 9) k) :
    Calls Tryd.prog 34 #[.pointer (some ⟨t, 0, none⟩), .agg #[.int .u8 (d : Nat), .int .u64 (k : Nat)]] w fun e w' => e = .returned (.agg #[.int .i64 ((5 : Nat) : Int), .int .u64 0, .bool false]) ∧ (∃ tk' : Int, 0 ≤ tk' ∧ tk' ≤ (stepsN (d % 9) : Nat) ∧ TY w' B t l lim tk') ∧ FT B w w' := by
  obtain ⟨hr2, hm, hu⟩ := hf
  have hs : stepsN (d % 9) = 1073741824 := by
    have : d % 9 = 0 ∨ d % 9 = 1 := by omega
    rcases this with e | e <;> rw [e] <;> rfl
  have hins : ∀ w', Nw w w' → Calls Tryd.prog 23 #[.pointer (some ⟨t, 0, none⟩), .int .u64 (k : Nat)] w' fun e w'' => e = .returned (.int .i64 (5 : Nat)) ∧ (∃ tk' : Int, 0 ≤ tk' ∧ tk' ≤ (stepsN (d % 9) : Nat) ∧ TY w'' B t l lim tk') ∧ FT B w' w'' := by
    intro w' hf
    have e1 : insE lim l k = (5, l) := by unfold insE; rw [if_neg hm, if_neg (by omega)]
    have := ty_insert B t lim l tk w' (h.nw hf) (Nat.le_trans hBw hf.size) k hk hlen
    rw [e1] at this
    rw [hs]
    exact this.mono (fun e w'' ⟨a, b, c⟩ => ⟨a, bd_mono (a := 22) (by omega) b, c⟩)
  rcases (show d % 9 = 0 ∨ d % 9 = 1 by omega) with e | e
  · exact do_0 B t lim l d k _ 5 w hBw e hins
  · exact do_1 B t lim l d k _ 5 w hBw e hins
end
end Go.Proofs.YtnhdcefoigmjpaaDoor

