/-
  The walk of the law TrieEmpties.
-/
import Derived.Test.YtnhdcefoigmjpaaDoorTrDrop
import Derived.Test.YtnhdcefoigmjpaaDoorTrTop2

namespace Go.Proofs.YtnhdcefoigmjpaaDoor
open Go.RowKit Go.Proofs.YtnhdcefoigmjpaaDoorW.PrintWords Go.Proofs.YtnhdcefoigmjpaaDoorW.PrintMore
attribute [local go_sem] max2_int min2_int max_two min_two
set_option linter.unusedVariables false
set_option linter.unusedSimpArgs false
theorem tx_min (B t lim : Nat) (l : List Nat) (w : World) (h : TX w B t l lim) :
    Calls Tryd.prog 27 #[.pointer (some ⟨t, 0, none⟩)] w fun e w' => e = .returned (.tuple #[.int .u64 (l.headD 0 : Nat), .bool (decide (l ≠ []))]) ∧ TX w' B t l lim ∧ FT B w w' := by
  obtain ⟨m, p, ad, rows, free, cv, fv, root, tk, h, hm, hb⟩ := h
  refine (tmin_calls t m p lim root l ad rows free cv fv tk w h hm).mono ?_
  rintro e w' ⟨rfl, h1, ⟨tk', _, _, h2⟩, h3⟩
  exact ⟨rfl, ⟨m, p, ad, rows, free, cv, fv, root, tk', h1, h2, hb⟩, FT.of_one hm hb.2.1 h3⟩
theorem tx_max (B t lim : Nat) (l : List Nat) (w : World) (h : TX w B t l lim) :
    Calls Tryd.prog 28 #[.pointer (some ⟨t, 0, none⟩)] w fun e w' => e = .returned (.tuple #[.int .u64 (l.getLastD 0 : Nat), .bool (decide (l ≠ []))]) ∧ TX w' B t l lim ∧ FT B w w' := by
  obtain ⟨m, p, ad, rows, free, cv, fv, root, tk, h, hm, hb⟩ := h
  refine (tmax_calls t m p lim root l ad rows free cv fv tk w h hm).mono ?_
  rintro e w' ⟨rfl, h1, ⟨tk', _, _, h2⟩, h3⟩
  exact ⟨rfl, ⟨m, p, ad, rows, free, cv, fv, root, tk', h1, h2, hb⟩, FT.of_one hm hb.2.1 h3⟩
def lenOf : Value → Nat
  | .slice _ n _ => n
  | _ => 0
theorem tmod_nat (a b : Nat) : Int.tmod (a : Int) (b : Int) = ((a % b : Nat) : Int) := by
  rw [Int.tmod_eq_emod_of_nonneg (by omega)]; rfl
set_option maxRecDepth 100000 in
set_option maxHeartbeats 8000000 in
theorem empties_calls (A0 : Option Addr) (c0 : Nat) (l0 : List Int) (A1 : Option Addr) (c1 : Nat) (l1 : List Int) (w : World) (hr : Kd.C (Kd.int .u64) w A0 l0.length l0) (hc0 : l0.length ≤ c0) (hb : ∀ a, a ∈ l0 → 0 ≤ a ∧ a ≤ 18446744073709551615) (hn : l0.length ≤ 140737488351232)
    (hr1 : Kd.C (Kd.int .u8) w A1 l1.length l1) (hc1 : l1.length ≤ c1) (hb1 : ∀ a, a ∈ l1 → 0 ≤ a ∧ a ≤ 255) (hn1 : l1.length ≤ 140737488351232) (hT : Tb w) :
    Calls Tryd.prog 6 #[.slice A0 l0.length c0, .slice A1 l1.length c1] w fun e w' => e = .returned (.bool true) ∧ Nw w w' := by
  have hg : 0 < w.heap.size := World.block_lt_of_cell? w _ (hT 0 (by decide))
  obtain ⟨ks, hks⟩ : ∃ ks, ks = (l0.map Int.toNat).take 60 := ⟨_, rfl⟩
  have hkl : ks.length ≤ 60 := by rw [hks, List.length_take]; omega
  have hkb : ∀ k, k ∈ ks → k < 18446744073709551616 := fun k hk => (keys_nat l0 hb).2 k (by rw [hks] at hk; exact List.mem_of_mem_take hk)
  obtain ⟨L, hL⟩ : ∃ L, L = ofN ks := ⟨_, rfl⟩
  have hLu : Up L := by rw [hL]; exact ofN_up ks [] List.Pairwise.nil
  have hLl : L.length ≤ 60 := by rw [hL]; have := ofN_len ks []; simp only [List.length_nil] at this; exact Nat.le_trans this (by omega)
  have hLb : ∀ k, k ∈ L → k < 18446744073709551616 := fun k hk => by
    rw [hL] at hk
    rcases (mem_ofN ks k []).1 hk with h | h
    · exact hkb k h
    · cases h
  have HW := Lib.hid (fun w' (hf : Nw w w') => by have := twords_calls A0 c0 l0 60 w' (C_nw hr hf) hc0 hb hn (by omega); rw [← hks] at this; exact this)
  have HO := Lib.hid (fun A c w' h => by have := of_calls A c ks w' h (by omega); rw [← hL] at this; exact this)
  have HT := Lib.hid hT
  have HAW := Lib.hid (tawake_calls w hT)
  have HLU := Lib.hid hLu
  have HLB := Lib.hid hLb
  have HC1 := Lib.hid hr1
  have HB1 := Lib.hid hb1
  clear hks hkb hkl hL hLu hLb hr hb hT hr1 hb1
  go_enter Tryd.func6, Tryd.ntmps6
  go_wp2_with (first
    | (go_at_call 9; refine HAW.out.mono ?_; rintro e w1 ⟨rfl, hf⟩; have HN1 := Lib.hid hf; clear hf)
    | (go_at_call 10; refine (tx_new 200000 _ (by omega)).mono ?_; rintro e w2 ⟨t, rfl, hX, hf⟩; have HX := Lib.hid hX; have HN2 := Lib.hid (HN1.out.trans hf); have hsz := hf.size; have hsB := HN1.out.size; clear hX hf)
    | (go_at_call 12; refine (HW.out _ HN2.out).mono ?_; rintro e w3 ⟨A3, c3, rfl, hR, hf⟩; have HR3 := Lib.hid hR; have HX := Lib.hid (HX.out.nw hf); have HN3 := Lib.hid (HN2.out.trans hf); have hsz := Nat.le_trans hsz hf.size; clear hR hf)
    | (go_at_call 11; refine (HO.out A3 c3 _ HR3.out).mono ?_; rintro e w4 ⟨A4, c4, rfl, hR, hf⟩; have HR4 := Lib.hid hR; have HX4 := Lib.hid (HX.out.nw hf); have HN4 := Lib.hid (HN3.out.trans hf); have hsz := Nat.le_trans hsz hf.size; clear hR hf HX))
  have HG1 : Hid (0 < w1.heap.size) := Lib.hid (Nat.lt_of_lt_of_le hg hsB)
  go_loopw [9, 28] (fun _ iv wr => ∃ i : Nat, i ≤ L.length ∧ iv = .int .i64 i ∧ Hid (TX wr w1.heap.size t (L.take i) 200000) ∧ Hid (FT w1.heap.size w4 wr)) (fun _ iv _ => L.length - (intOf iv).toNat)
  case atStart => exact ⟨0, Nat.zero_le _, rfl, HX4, Lib.hid (FT.refl _ _)⟩
  case round =>
    obtain ⟨i, hi, rfl, HX, HF⟩ := hrel
    by_cases hlt : i < L.length
    · obtain ⟨k, hk⟩ : ∃ k, L[i]? = some k := ⟨_, List.getElem?_eq_getElem hlt⟩
      obtain ⟨g, hA, hcx⟩ := R_key (R_ft HR4.out HF.out) hk
      subst hA
      have htk : L.take (i + 1) = L.take i ++ [k] := by
        rw [List.take_add_one, hk]; rfl
      have hup1 : Up (L.take (i + 1)) := List.Pairwise.sublist (List.take_sublist _ _) HLU.out
      rw [htk] at hup1
      have hp := List.pairwise_append.1 hup1
      have hltk : ∀ x, x ∈ L.take i → x < k := fun x hx => hp.2.2 x hx k (List.mem_singleton.2 rfl)
      have hnm : k ∉ L.take i := fun h => absurd (hltk k h) (Nat.lt_irrefl _)
      have hins := tx_insert w1.heap.size t 200000 (L.take i) wr HX.out (Nat.le_trans hsz HF.out.size) k (HLB.out k (List.mem_of_getElem? hk)) (by rw [List.length_take]; omega)
      unfold insE at hins
      have hus := used_le (L.take i ++ [k]).length (L.take i ++ [k]) rfl hup1
      have hus2 : used (insS (L.take i) k) ≤ 200000 := by
        rw [ins_snoc hp.1 hltk]
        refine Nat.le_trans hus ?_
        rw [List.length_append, List.length_take]; simp; omega
      rw [if_neg hnm, if_pos hus2, ins_snoc hp.1 hltk, ← htk] at hins
      have HI := Lib.hid hins
      clear hins hus hus2 hnm hltk hp hup1 htk hk
      go_wp2_with (first
        | (go_at_call 23; refine HI.out.mono ?_; rintro e w5 ⟨rfl, hX, hf⟩; have HX := Lib.hid hX; have HF := Lib.hid (HF.out.trans hf); clear hX hf))
      go_roundw
      case rel => exact ⟨i + 1, by omega, by go_num, HX, HF⟩
      case measure => simp [intOf]; omega
    · obtain rfl : i = L.length := by omega
      have HXL : Hid (TX wr w1.heap.size t L 200000) := Lib.hid (by have := HX.out; rw [List.take_length] at this; exact this)
      have HRL := Lib.hid (R_ft HR4.out HF.out)
      obtain ⟨wo, hwo⟩ : ∃ wo, wo = wr := ⟨_, rfl⟩
      subst hwo
      have HFo := HF
      clear HX HF
      go_wp2
      go_loopw [7, 10, 11, 12] (fun lv iv _ _ wr => ∃ (i : Nat) (l' : List Nat) (A : Option Addr) (c : Nat), lv = .slice A l'.length c ∧ iv = .int .i64 i ∧ i + l'.length ≤ 60 ∧ Hid (Up l') ∧ Hid (∀ x, x ∈ l' → x < 18446744073709551616) ∧ Hid (Kd.R (Kd.int .u64) 31 wr 0 (fun _ => True) (.slice A l'.length c) (keysI l')) ∧ Hid (TX wr w1.heap.size t l' 200000) ∧ Hid (FT w1.heap.size w4 wr)) (fun lv _ _ _ _ => lenOf lv)
      case atStart => exact ⟨0, L, A4, c4, rfl, rfl, by omega, HLU, HLB, HRL, HXL, HFo⟩
      case round =>
        obtain ⟨i, l', A, c, rfl, rfl, hil, HUP, HBD, HRl, HX, HF⟩ := hrel
        by_cases h0 : 0 < l'.length
        · have h0' : (0 : Int) < (l'.length : Int) := by omega
          by_cases hio : i < l1.length
          · have hio' : (i : Int) < (l1.length : Int) := by omega
            have hCo := C_nw HC1.out (HN4.out.trans_of HF.out (fun q hq e => by have := e.1; omega))
            obtain ⟨ad, e1, hco⟩ := Kd.at_int hCo (i : Nat) (by omega) (by omega)
            obtain ⟨o, ho⟩ : ∃ o : Nat, rd l1 (i : Nat) = (o : Nat) := by
              have hm := List.getElem_mem (l := l1) (by simpa using hio)
              have := HB1.out _ hm
              refine ⟨(l1[i]).toNat, ?_⟩
              unfold rd
              rw [Int.toNat_natCast, List.getD_eq_getElem?_getD, List.getElem?_eq_getElem hio]
              show l1[i] = _
              omega
            rw [ho, Int.toNat_natCast] at hco
            subst e1
            have ho255 : (o : Int) ≤ 255 := by
              have hm := List.getElem_mem (l := l1) (by simpa using hio)
              have := HB1.out _ hm
              rw [← ho]
              unfold rd
              rw [Int.toNat_natCast, List.getD_eq_getElem?_getD, List.getElem?_eq_getElem hio]
              exact this.2
            have hln0 : ((l'.length : Int) == 0) = false := by rw [beq_eq_false_iff_ne]; omega
            obtain ⟨a, ha⟩ : ∃ a, a = o % l'.length := ⟨_, rfl⟩
            have hal : a < l'.length := by rw [ha]; exact Nat.mod_lt _ h0
            have htm : Int.tmod (o : Int) (l'.length : Int) = (a : Nat) := by rw [tmod_nat, ha]
            clear ha ho hCo
            obtain ⟨k, hk⟩ : ∃ k, l'[a]? = some k := ⟨_, List.getElem?_eq_getElem (by omega)⟩
            obtain ⟨gl, hA, hck⟩ := R_key HRl.out hk
            subst hA
            have hkm : k ∈ l' := List.mem_of_getElem? hk
            have hk64 := HBD.out k hkm
            have hdr := drop_there (some ⟨gl, 0, none⟩) c l' k wr HUP.out HRl.out (by omega) hkm
            have hd1 := fun w' (h : TX w' w1.heap.size t l' 200000) (hT : Tb w') (hs : w1.heap.size ≤ w'.heap.size) => tx_delete w1.heap.size t 200000 l' w' h hT HG1.out hs k hk64
            unfold delE at hd1
            simp only [if_pos hkm] at hd1
            have hkd : k ∉ dropS l' k := fun h => by rw [mem_dropS] at h; exact h.2 rfl
            have hd2 := fun w' (h : TX w' w1.heap.size t (dropS l' k) 200000) (hT : Tb w') (hs : w1.heap.size ≤ w'.heap.size) => tx_delete w1.heap.size t 200000 (dropS l' k) w' h hT HG1.out hs k hk64
            unfold delE at hd2
            simp only [if_neg hkd] at hd2
            have hha := fun w' (h : TX w' w1.heap.size t (dropS l' k) 200000) => tx_has w1.heap.size t 200000 (dropS l' k) w' h k hk64
            rw [decide_eq_false hkd] at hha
            have hml : (dropS l' k).length + 1 = l'.length := by
              have e := ins_drop HUP.out hkm
              have h2 := len_insS (dropS l' k) k
              rw [e] at h2; omega
            have HMU : Hid (Up (dropS l' k)) := Lib.hid (up_dropS HUP.out k)
            have HMB : Hid (∀ x, x ∈ dropS l' k → x < 18446744073709551616) := Lib.hid (fun x hx => HBD.out x ((mem_dropS l' k x).1 hx).1)
            obtain ⟨m, hm⟩ : ∃ m, m = dropS l' k := ⟨_, rfl⟩
            rw [← hm] at hdr hd1 hd2 hha hml HMU HMB
            have HSM := Lib.hid (fun v w' (h : TX w' w1.heap.size t m 200000) (hT : Tb w') (hR : Kd.R (Kd.int .u64) 31 w' 0 (fun _ => True) v (keysI m)) => show Calls Tryd.prog 16 #[.pointer (some ⟨t, 0, none⟩), v] w' (fun e w'' => e = .returned (.bool true) ∧ TX w'' w1.heap.size t m 200000 ∧ FT w1.heap.size w' w'') from (by have := same_calls w1.heap.size t 200000 m m v w' h hT hR (by omega); rw [decide_eq_true (show m.take 100000 = m ∧ m.length = m.length from ⟨List.take_of_length_le (by omega), rfl⟩)] at this; exact this))
            have HDR := Lib.hid hdr
            have HD1 := Lib.hid hd1
            have HD2 := Lib.hid hd2
            have HHA := Lib.hid hha
            have HML := Lib.hid hml
            have HNr := Lib.hid (HN4.out.trans_of HF.out (fun q hq e => by have := e.1; omega))
            have hszr : w1.heap.size ≤ wr.heap.size := Nat.le_trans hsz HF.out.size
            clear hdr hd1 hd2 hha hml hkm hkd hm hk hk64
            go_wp2_with (first
              | (go_at_call 24; refine HDR.out.mono ?_; rintro e w5 ⟨A', c', rfl, hR, hf⟩; have HX := Lib.hid (HX.out.nw hf); have HRm := Lib.hid (R_base0 hR); have HF := Lib.hid (HF.out.trans (FT.nw hf)); have HNr := Lib.hid (HNr.out.trans hf); have hszr := Nat.le_trans hszr hf.size; clear hR hf)
              | (go_at_call 25; (with_reducible refine Calls.mono (HD1.out _ HX.out (HT.out.step HNr.out) hszr) ?_); rintro e w6 ⟨rfl, hX, hf⟩; have HX := Lib.hid hX; have HRm := Lib.hid (R_ft HRm.out hf); have HF := Lib.hid (HF.out.trans hf); have HNr := Lib.hid (HNr.out.trans_of hf (fun q hq e => by have := e.1; omega)); have hszr := Nat.le_trans hszr (Fr.size hf); clear hX hf)
              | (go_at_call 25; (with_reducible refine Calls.mono (HD2.out _ HX.out (HT.out.step HNr.out) hszr) ?_); rintro e w7 ⟨rfl, hX, hf⟩; have HX := Lib.hid hX; have HRm := Lib.hid (R_ft HRm.out hf); have HF := Lib.hid (HF.out.trans hf); have HNr := Lib.hid (HNr.out.trans_of hf (fun q hq e => by have := e.1; omega)); clear hX hf)
              | (go_at_call 26; refine (HHA.out _ HX.out).mono ?_; rintro e w8 ⟨rfl, hX, hf⟩; have HX := Lib.hid hX; have HRm := Lib.hid (R_ft HRm.out hf); have HF := Lib.hid (HF.out.trans hf); have HNr := Lib.hid (HNr.out.trans_of hf (fun q hq e => by have := e.1; omega)); clear hX hf)
              | (go_at_call 16; refine (HSM.out _ _ HX.out (HT.out.step HNr.out) HRm.out).mono ?_; rintro e w9 ⟨rfl, hX, hf⟩; have HX := Lib.hid hX; have HRm := Lib.hid (R_ft HRm.out hf); have HF := Lib.hid (HF.out.trans hf); clear hX hf))
            go_roundw
            case rel => exact ⟨i + 1, m, A', c', rfl, by go_num, by have := HML.out; omega, HMU, HMB, HRm, HX, HF⟩
            case measure => (have := HML.out; simp only [lenOf]; omega)
          · have hio' : ¬ (i : Int) < (l1.length : Int) := by omega
            obtain ⟨k, hk⟩ : ∃ k, l'[0]? = some k := ⟨_, List.getElem?_eq_getElem (by omega)⟩
            obtain ⟨gl, hA, hck⟩ := R_key HRl.out hk
            subst hA
            have hkm : k ∈ l' := List.mem_of_getElem? hk
            have hk64 := HBD.out k hkm
            have hdr := drop_there (some ⟨gl, 0, none⟩) c l' k wr HUP.out HRl.out (by omega) hkm
            have hd1 := fun w' (h : TX w' w1.heap.size t l' 200000) (hT : Tb w') (hs : w1.heap.size ≤ w'.heap.size) => tx_delete w1.heap.size t 200000 l' w' h hT HG1.out hs k hk64
            unfold delE at hd1
            simp only [if_pos hkm] at hd1
            have hkd : k ∉ dropS l' k := fun h => by rw [mem_dropS] at h; exact h.2 rfl
            have hd2 := fun w' (h : TX w' w1.heap.size t (dropS l' k) 200000) (hT : Tb w') (hs : w1.heap.size ≤ w'.heap.size) => tx_delete w1.heap.size t 200000 (dropS l' k) w' h hT HG1.out hs k hk64
            unfold delE at hd2
            simp only [if_neg hkd] at hd2
            have hha := fun w' (h : TX w' w1.heap.size t (dropS l' k) 200000) => tx_has w1.heap.size t 200000 (dropS l' k) w' h k hk64
            rw [decide_eq_false hkd] at hha
            have hml : (dropS l' k).length + 1 = l'.length := by
              have e := ins_drop HUP.out hkm
              have h2 := len_insS (dropS l' k) k
              rw [e] at h2; omega
            have HMU : Hid (Up (dropS l' k)) := Lib.hid (up_dropS HUP.out k)
            have HMB : Hid (∀ x, x ∈ dropS l' k → x < 18446744073709551616) := Lib.hid (fun x hx => HBD.out x ((mem_dropS l' k x).1 hx).1)
            obtain ⟨m, hm⟩ : ∃ m, m = dropS l' k := ⟨_, rfl⟩
            rw [← hm] at hdr hd1 hd2 hha hml HMU HMB
            have HSM := Lib.hid (fun v w' (h : TX w' w1.heap.size t m 200000) (hT : Tb w') (hR : Kd.R (Kd.int .u64) 31 w' 0 (fun _ => True) v (keysI m)) => show Calls Tryd.prog 16 #[.pointer (some ⟨t, 0, none⟩), v] w' (fun e w'' => e = .returned (.bool true) ∧ TX w'' w1.heap.size t m 200000 ∧ FT w1.heap.size w' w'') from (by have := same_calls w1.heap.size t 200000 m m v w' h hT hR (by omega); rw [decide_eq_true (show m.take 100000 = m ∧ m.length = m.length from ⟨List.take_of_length_le (by omega), rfl⟩)] at this; exact this))
            have HDR := Lib.hid hdr
            have HD1 := Lib.hid hd1
            have HD2 := Lib.hid hd2
            have HHA := Lib.hid hha
            have HML := Lib.hid hml
            have HNr := Lib.hid (HN4.out.trans_of HF.out (fun q hq e => by have := e.1; omega))
            have hszr : w1.heap.size ≤ wr.heap.size := Nat.le_trans hsz HF.out.size
            clear hdr hd1 hd2 hha hml hkm hkd hm hk hk64
            go_wp2_with (first
              | (go_at_call 24; refine HDR.out.mono ?_; rintro e w5 ⟨A', c', rfl, hR, hf⟩; have HX := Lib.hid (HX.out.nw hf); have HRm := Lib.hid (R_base0 hR); have HF := Lib.hid (HF.out.trans (FT.nw hf)); have HNr := Lib.hid (HNr.out.trans hf); have hszr := Nat.le_trans hszr hf.size; clear hR hf)
              | (go_at_call 25; (with_reducible refine Calls.mono (HD1.out _ HX.out (HT.out.step HNr.out) hszr) ?_); rintro e w6 ⟨rfl, hX, hf⟩; have HX := Lib.hid hX; have HRm := Lib.hid (R_ft HRm.out hf); have HF := Lib.hid (HF.out.trans hf); have HNr := Lib.hid (HNr.out.trans_of hf (fun q hq e => by have := e.1; omega)); have hszr := Nat.le_trans hszr (Fr.size hf); clear hX hf)
              | (go_at_call 25; (with_reducible refine Calls.mono (HD2.out _ HX.out (HT.out.step HNr.out) hszr) ?_); rintro e w7 ⟨rfl, hX, hf⟩; have HX := Lib.hid hX; have HRm := Lib.hid (R_ft HRm.out hf); have HF := Lib.hid (HF.out.trans hf); have HNr := Lib.hid (HNr.out.trans_of hf (fun q hq e => by have := e.1; omega)); clear hX hf)
              | (go_at_call 26; refine (HHA.out _ HX.out).mono ?_; rintro e w8 ⟨rfl, hX, hf⟩; have HX := Lib.hid hX; have HRm := Lib.hid (R_ft HRm.out hf); have HF := Lib.hid (HF.out.trans hf); have HNr := Lib.hid (HNr.out.trans_of hf (fun q hq e => by have := e.1; omega)); clear hX hf)
              | (go_at_call 16; refine (HSM.out _ _ HX.out (HT.out.step HNr.out) HRm.out).mono ?_; rintro e w9 ⟨rfl, hX, hf⟩; have HX := Lib.hid hX; have HRm := Lib.hid (R_ft HRm.out hf); have HF := Lib.hid (HF.out.trans hf); clear hX hf))
            go_roundw
            case rel => exact ⟨i + 1, m, A', c', rfl, by go_num, by have := HML.out; omega, HMU, HMB, HRm, HX, HF⟩
            case measure => (have := HML.out; simp only [lenOf]; omega)
        · obtain rfl : l' = [] := List.length_eq_zero_iff.1 (by omega)
          have HMI := Lib.hid (fun w' (h : TX w' w1.heap.size t [] 200000) => tx_min w1.heap.size t 200000 [] w' h)
          have HMA := Lib.hid (fun w' (h : TX w' w1.heap.size t [] 200000) => tx_max w1.heap.size t 200000 [] w' h)
          have HUS := Lib.hid (fun w' (h : TX w' w1.heap.size t [] 200000) => tx_used w1.heap.size t 200000 [] w' h)
          have hd : decide (([] : List Nat) ≠ []) = false := rfl
          rw [hd] at HMI HMA
          rw [used_nil] at HUS
          clear hd
          go_wp2_with (first
            | (go_at_call 27; refine (HMI.out _ HX.out).mono ?_; rintro e w5 ⟨rfl, hX, hf⟩; have HX := Lib.hid hX; have HF := Lib.hid (HF.out.trans hf); clear hX hf)
            | (go_at_call 28; refine (HMA.out _ HX.out).mono ?_; rintro e w5 ⟨rfl, hX, hf⟩; have HX := Lib.hid hX; have HF := Lib.hid (HF.out.trans hf); clear hX hf)
            | (go_at_call 19; refine (HUS.out _ HX.out).mono ?_; rintro e w' ⟨rfl, rfl⟩))
          go_ret
          exact ⟨rfl, HN4.out.trans_of HF.out (fun q hq e => by have := e.1; omega)⟩
end Go.Proofs.YtnhdcefoigmjpaaDoor
