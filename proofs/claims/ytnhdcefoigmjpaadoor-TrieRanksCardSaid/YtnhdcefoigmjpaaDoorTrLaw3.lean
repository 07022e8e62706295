/-
  The walk of the law TrieRanks.
-/
import Derived.Test.YtnhdcefoigmjpaaDoorTrNil
import Derived.Test.YtnhdcefoigmjpaaDoorTrSelect

namespace Go.Proofs.YtnhdcefoigmjpaaDoor
open Go.RowKit Go.Proofs.YtnhdcefoigmjpaaDoorW.PrintWords Go.Proofs.YtnhdcefoigmjpaaDoorW.PrintMore Go.Proofs.YtnhdcefoigmjpaaDoor.PTrieWalks
attribute [local go_sem] max2_int min2_int max_two min_two
set_option linter.unusedVariables false
set_option linter.unusedSimpArgs false
theorem tx_rank (B t lim : Nat) (l : List Nat) (w : World) (h : TX w B t l lim) (k : Nat) (hk : k < 18446744073709551616) :
    Calls Tryd.prog 22 #[.pointer (some ⟨t, 0, none⟩), .int .u64 k] w fun e w' => e = .returned (.int .i64 (cntLt l k : Nat)) ∧ TX w' B t l lim ∧ FT B w w' := by
  obtain ⟨m, p, ad, rows, free, cv, fv, root, tk, h, hm, hb⟩ := h
  refine (trank_calls t m p lim root l ad rows free cv fv tk w h hm k hk).mono ?_
  rintro e w' ⟨rfl, h1, h2, h3⟩
  exact ⟨rfl, ⟨m, p, ad, rows, free, cv, fv, root, _, h1, h2, hb⟩, FT.of_one hm hb.2.1 h3⟩
theorem tx_select_in (B t lim : Nat) (l : List Nat) (w : World) (h : TX w B t l lim) (i v : Nat) (hv : l[i]? = some v) :
    Calls Tryd.prog 21 #[.pointer (some ⟨t, 0, none⟩), .int .i64 i] w fun e w' => e = .returned (.tuple #[.int .u64 (v : Nat), .bool true]) ∧ TX w' B t l lim ∧ FT B w w' := by
  obtain ⟨m, p, ad, rows, free, cv, fv, root, tk, h, hm, hb⟩ := h
  refine (tselect_in t m p lim root l ad rows free cv fv tk w h hm i v hv).mono ?_
  rintro e w' ⟨rfl, h1, h2, h3⟩
  exact ⟨rfl, ⟨m, p, ad, rows, free, cv, fv, root, _, h1, h2, hb⟩, FT.of_one hm hb.2.1 h3⟩
theorem tx_select_out (B t lim : Nat) (l : List Nat) (w : World) (h : TX w B t l lim) (i : Int) (hi : i < 0 ∨ (l.length : Int) ≤ i) :
    Calls Tryd.prog 21 #[.pointer (some ⟨t, 0, none⟩), .int .i64 i] w fun e w' => e = .returned (.tuple #[.int .u64 0, .bool false]) ∧ TX w' B t l lim ∧ FT B w w' := by
  obtain ⟨m, p, ad, rows, free, cv, fv, root, tk, h, hm, hb⟩ := h
  refine (tselect_out t m p lim root l ad rows free cv fv tk w h hm i hi).mono ?_
  rintro e w' ⟨rfl, h1, h2, h3⟩
  exact ⟨rfl, ⟨m, p, ad, rows, free, cv, fv, root, _, h1, h2, hb⟩, FT.of_one hm hb.2.1 h3⟩
theorem cnt_idx {l : List Nat} (h : Up l) {n v : Nat} (hv : l[n]? = some v) : cntLt l v = n := by
  have h1 := cnt_here h (List.mem_of_getElem? hv)
  have hlt := (List.getElem?_eq_some_iff.1 h1).1
  exact (List.getElem?_inj hlt (List.Pairwise.imp Nat.ne_of_lt h)).1 (h1.trans hv.symm)
theorem addN_of_mem {l : List Nat} {a : Nat} (h : a ∈ l) : addN l a = l := by unfold addN; rw [if_pos h]
theorem addN_new {l : List Nat} {a : Nat} (h : a ∉ l) : addN l a = insS l a := by unfold addN; rw [if_neg h]
theorem each_never (lim : Nat) : ∀ (ks l : List Nat), Up l → 11 * (l.length + ks.length) ≤ lim → eachF lim l ks = (ks.foldl addN l, (ks.foldl addN l).length - l.length) ∧ l.length ≤ (ks.foldl addN l).length := by
  intro ks
  induction ks with
  | nil => intro l h _; simp [eachF]
  | cons k ks ih =>
    intro l h hl
    simp only [List.length_cons] at hl
    by_cases hk : k ∈ l
    · obtain ⟨e1, e2⟩ := ih l h (by omega)
      rw [eachF, if_pos hk, e1, List.foldl_cons, addN_of_mem hk]
      exact ⟨rfl, e2⟩
    · have hu2 := up_insS h hk
      have hln := len_insS l k
      have hu := used_le (insS l k).length (insS l k) rfl hu2
      obtain ⟨e1, e2⟩ := ih (insS l k) hu2 (by omega)
      rw [eachF, if_neg hk, if_pos (by omega), e1, List.foldl_cons, addN_new hk]
      refine ⟨?_, by omega⟩
      congr 1
      show _ - _ + 1 = _
      omega
theorem each_again (lim : Nat) (l : List Nat) : ∀ ks : List Nat, (∀ k, k ∈ ks → k ∈ l) → eachF lim l ks = (l, 0) := by
  intro ks
  induction ks with
  | nil => intro _; rfl
  | cons k ks ih => intro h; rw [eachF, if_pos (h k List.mem_cons_self)]; exact ih (fun x hx => h x (List.mem_cons_of_mem _ hx))
theorem find_calls (A : Option Addr) (c : Nat) (l : List Nat) (k : Nat) (w : World) (hup : Up l) (hr : Kd.R (Kd.int .u64) 31 w 0 (fun _ => True) (.slice A l.length c) (keysI l)) (hl : l.length ≤ 1000000) :
    Calls Tryd.prog 20 #[.slice A l.length c, .int .u64 k] w fun e w' => e = .returned (.tuple #[.int .i64 (cntLt l k : Nat), .bool (decide (k ∈ l))]) ∧ Nw w w' := by
  obtain ⟨hC, hc⟩ := R_c hr
  have h := PTrieWalks.stepstoneref11_Find.calls (l.length + 1) A c (keysI l) (k : Nat) _ _ w (by rw [keysI_len]; exact hC) (by rw [keysI_len]; exact hc) (find_f hup hl k l.length (Nat.le_refl _))
  rw [keysI_len] at h
  exact h.mono (fun e w' ⟨h1, h2⟩ => ⟨h1, drawn_nw h2⟩)
set_option maxRecDepth 100000 in
set_option maxHeartbeats 8000000 in
theorem ranks_calls (A0 : Option Addr) (c0 : Nat) (l0 : List Int) (k : Nat) (i : Int) (w : World) (hr : Kd.C (Kd.int .u64) w A0 l0.length l0) (hc0 : l0.length ≤ c0) (hb : ∀ a, a ∈ l0 → 0 ≤ a ∧ a ≤ 18446744073709551615) (hn : l0.length ≤ 140737488351232) (hk : k < 18446744073709551616) (hT : Tb w) :
    Calls Tryd.prog 5 #[.slice A0 l0.length c0, .int .u64 (k : Nat), .int .i64 i] w fun e w' => e = .returned (.bool true) ∧ Nw w w' := by
  obtain ⟨ks, hks⟩ : ∃ ks, ks = (l0.map Int.toNat).take 80 := ⟨_, rfl⟩
  have hkl : ks.length ≤ 80 := by rw [hks, List.length_take]; omega
  have hkb : ∀ k, k ∈ ks → k < 18446744073709551616 := fun k hk => (keys_nat l0 hb).2 k (by rw [hks] at hk; exact List.mem_of_mem_take hk)
  obtain ⟨L, hL⟩ : ∃ L, L = ofN ks := ⟨_, rfl⟩
  have hLu : Up L := by rw [hL]; exact ofN_up ks [] List.Pairwise.nil
  have hLl : L.length ≤ 80 := by rw [hL]; have := ofN_len ks []; simp only [List.length_nil] at this; exact Nat.le_trans this (by omega)
  have hLb : ∀ k, k ∈ L → k < 18446744073709551616 := fun k hk => by
    rw [hL] at hk
    rcases (mem_ofN ks k []).1 hk with h | h
    · exact hkb k h
    · cases h
  have he1 : eachF 100000 [] ks = (L, L.length) := by
    have := (each_never 100000 ks [] List.Pairwise.nil (by simp; omega)).1
    rw [this, hL]; simp [ofN]
  have he2 : eachF 100000 L ks = (L, 0) := each_again 100000 L ks (fun k hk => by rw [hL]; exact (mem_ofN ks k []).2 (.inl hk))
  have HW := Lib.hid (fun w' (hf : Nw w w') => by have := twords_calls A0 c0 l0 80 w' (C_nw hr hf) hc0 hb hn (by omega); rw [← hks] at this; exact this)
  have HO := Lib.hid (fun A c w' h => by have := of_calls A c ks w' h (by omega); rw [← hL] at this; exact this)
  have HE1 := Lib.hid (fun B t v w' (h : TX w' B t [] 100000) (hR : Kd.R (Kd.int .u64) 31 w' 0 (fun _ => True) v (keysI ks)) (hB : B ≤ w'.heap.size) => by have := each_calls B t 100000 [] ks v w' h hR hB hkb (by simp; omega); rw [he1] at this; exact this)
  have HE2 := Lib.hid (fun B t v w' (h : TX w' B t L 100000) (hR : Kd.R (Kd.int .u64) 31 w' 0 (fun _ => True) v (keysI ks)) (hB : B ≤ w'.heap.size) => by have := each_calls B t 100000 L ks v w' h hR hB hkb (by omega); rw [he2] at this; exact this)
  have HSM := Lib.hid (fun B t v w' (h : TX w' B t L 100000) (hT : Tb w') (hR : Kd.R (Kd.int .u64) 31 w' 0 (fun _ => True) v (keysI L)) => show Calls Tryd.prog 16 #[.pointer (some ⟨t, 0, none⟩), v] w' (fun e w'' => e = .returned (.bool true) ∧ TX w'' B t L 100000 ∧ FT B w' w'') from by
    have := same_calls B t 100000 L L v w' h hT hR (by omega)
    rw [decide_eq_true (show L.take 100000 = L ∧ L.length = L.length from ⟨List.take_of_length_le (by omega), rfl⟩)] at this
    exact this)
  have HFD := Lib.hid (fun A c w' h => find_calls A c L k w' hLu h (by omega))
  obtain ⟨n1, hn1⟩ : ∃ n1, n1 = cntLt L k := ⟨_, rfl⟩
  have HRK := Lib.hid (fun B t w' (h : TX w' B t L 100000) => tx_rank B t 100000 L w' h k hk)
  rw [← hn1] at HFD HRK
  have HT := Lib.hid hT
  have HAW := Lib.hid (tawake_calls w hT)
  have HKL : Hid (ks.length ≤ 1000000) := Lib.hid (by omega)
  clear hn1 hks hkb hL he1 he2 hr hb hT
  by_cases hin : 0 ≤ i ∧ i < L.length
  · obtain ⟨n, rfl⟩ : ∃ n : Nat, i = (n : Nat) := ⟨i.toNat, by omega⟩
    obtain ⟨v, hv⟩ : ∃ v, L[n]? = some v := ⟨_, List.getElem?_eq_getElem (by omega)⟩
    have hi1 : (n : Int) < L.length := by omega
    have hnl : n < L.length := by omega
    have HV := Lib.hid hv
    have HSL := Lib.hid (fun B t w' (h : TX w' B t L 100000) => tx_select_in B t 100000 L w' h n v hv)
    have HRV := Lib.hid (fun B t w' (h : TX w' B t L 100000) => show Calls Tryd.prog 22 #[.pointer (some ⟨t, 0, none⟩), .int .u64 (v : Nat)] w' (fun e w'' => e = .returned (.int .i64 (n : Nat)) ∧ TX w'' B t L 100000 ∧ FT B w' w'') from by have := tx_rank B t 100000 L w' h v (hLb v (List.mem_of_getElem? hv)); rw [cnt_idx hLu hv] at this; exact this)
    clear hin hv hLb hLu hLl hkl
    go_enter Tryd.func5, Tryd.ntmps5
    go_wp2_with (first
    | (go_at_call 9; refine HAW.out.mono ?_; rintro e w1 ⟨rfl, hf⟩; have HN1 := Lib.hid hf; clear hf)
    | (go_at_call 10; refine (tx_new 100000 _ (by omega)).mono ?_; rintro e w2 ⟨t, rfl, hX, hf⟩; have HX := Lib.hid hX; have HN2 := Lib.hid (HN1.out.trans hf); have hsz := hf.size; have hsB := HN1.out.size; clear hX hf)
    | (go_at_call 12; refine (HW.out _ HN2.out).mono ?_; rintro e w3 ⟨A3, c3, rfl, hR, hf⟩; have HR3 := Lib.hid hR; have HX := Lib.hid (HX.out.nw hf); have HN3 := Lib.hid (HN2.out.trans hf); have hsz := Nat.le_trans hsz hf.size; clear hR hf)
    | (go_at_call 11; refine (HO.out A3 c3 _ HR3.out).mono ?_; rintro e w4 ⟨A4, c4, rfl, hR, hf⟩; (obtain ⟨gL, hA4, _⟩ := R_key hR HV.out; subst hA4); have HR4 := Lib.hid hR; have HR3 := Lib.hid (R_fr HR3.out hf (fun _ _ h => h)); have HX := Lib.hid (HX.out.nw hf); have HN := Lib.hid (HN3.out.trans hf); have hsz := Nat.le_trans hsz hf.size; clear hR hf)
    | (go_at_call 13; (with_reducible refine Calls.mono (HE1.out w1.heap.size t _ _ HX.out HR3.out hsz) ?_); rintro e w5 ⟨rfl, hX, hf⟩; have HX := Lib.hid hX; have HR3 := Lib.hid (R_ft HR3.out hf); have HR4 := Lib.hid (R_ft HR4.out hf); have HN := Lib.hid (HN.out.trans_of hf (fun q hq e => by have := e.1; omega)); have hsz := Nat.le_trans hsz (Fr.size hf); clear hX hf)
    | (go_at_call 13; (with_reducible refine Calls.mono (HE2.out w1.heap.size t _ _ HX.out HR3.out hsz) ?_); rintro e w5 ⟨rfl, hX, hf⟩; have HX := Lib.hid hX; have HR3 := Lib.hid (R_ft HR3.out hf); have HR4 := Lib.hid (R_ft HR4.out hf); have HN := Lib.hid (HN.out.trans_of hf (fun q hq e => by have := e.1; omega)); have hsz := Nat.le_trans hsz (Fr.size hf); clear hX hf)
    | (go_at_call 20; refine (HFD.out _ _ _ HR4.out).mono ?_; rintro e w6 ⟨rfl, hf⟩; have HX := Lib.hid (HX.out.nw hf); have HR3 := Lib.hid (R_fr HR3.out hf (fun _ _ h => h)); have HR4 := Lib.hid (R_fr HR4.out hf (fun _ _ h => h)); have HN := Lib.hid (HN.out.trans hf); clear hf)
    | (go_at_call 21; (with_reducible refine Calls.mono (HSL.out w1.heap.size t _ HX.out) ?_); rintro e w7 ⟨rfl, hX, hf⟩; have HX := Lib.hid hX; have HR3 := Lib.hid (R_ft HR3.out hf); have HR4 := Lib.hid (R_ft HR4.out hf); have HN := Lib.hid (HN.out.trans_of hf (fun q hq e => by have := e.1; omega)); clear hX hf)
    | (go_at_call 22; (with_reducible refine Calls.mono (HRK.out w1.heap.size t _ HX.out) ?_); rintro e w8 ⟨rfl, hX, hf⟩; have HX := Lib.hid hX; have HR3 := Lib.hid (R_ft HR3.out hf); have HR4 := Lib.hid (R_ft HR4.out hf); have HN := Lib.hid (HN.out.trans_of hf (fun q hq e => by have := e.1; omega)); have hcn := R_key2 HR4.out HV.out; clear hX hf)
    | (go_at_call 21; (with_reducible refine Calls.mono (nselect _ _) ?_); rintro e w' ⟨rfl, rfl⟩)
    | (go_at_call 22; (with_reducible refine Calls.mono (nrank _ _) ?_); rintro e w' ⟨rfl, rfl⟩)
    | (go_at_call 13; (with_reducible refine Calls.mono (neach ks A3 c3 _ HR3.out HKL.out) ?_); rintro e w' ⟨rfl, rfl⟩)
    | (go_at_call 16; refine (HSM.out w1.heap.size t _ _ HX.out (HT.out.step HN.out) HR4.out).mono ?_; rintro e w9 ⟨rfl, hX, hf⟩; have HX := Lib.hid hX; have HR3 := Lib.hid (R_ft HR3.out hf); have HN := Lib.hid (HN.out.trans_of hf (fun q hq e => by have := e.1; omega)); clear hX hf)
    | (go_at_call 22; (with_reducible refine Calls.mono (HRV.out w1.heap.size t _ HX.out) ?_); rintro e w8 ⟨rfl, hX, hf⟩; have HX := Lib.hid hX; have HR3 := Lib.hid (R_ft HR3.out hf); have HR4 := Lib.hid (R_ft HR4.out hf); have HN := Lib.hid (HN.out.trans_of hf (fun q hq e => by have := e.1; omega)); clear hX hf))
    go_ret
    exact ⟨rfl, HN.out⟩
  · have HSL := Lib.hid (fun B t w' (h : TX w' B t L 100000) => tx_select_out B t 100000 L w' h i (by omega))
    rcases Int.lt_or_le i 0 with hi0 | hi0
    · have hi1 : ¬ 0 ≤ i := by omega
      clear hin hLb hLu hLl hkl
      go_enter Tryd.func5, Tryd.ntmps5
      go_wp2_with (first
    | (go_at_call 9; refine HAW.out.mono ?_; rintro e w1 ⟨rfl, hf⟩; have HN1 := Lib.hid hf; clear hf)
    | (go_at_call 10; refine (tx_new 100000 _ (by omega)).mono ?_; rintro e w2 ⟨t, rfl, hX, hf⟩; have HX := Lib.hid hX; have HN2 := Lib.hid (HN1.out.trans hf); have hsz := hf.size; have hsB := HN1.out.size; clear hX hf)
    | (go_at_call 12; refine (HW.out _ HN2.out).mono ?_; rintro e w3 ⟨A3, c3, rfl, hR, hf⟩; have HR3 := Lib.hid hR; have HX := Lib.hid (HX.out.nw hf); have HN3 := Lib.hid (HN2.out.trans hf); have hsz := Nat.le_trans hsz hf.size; clear hR hf)
    | (go_at_call 11; refine (HO.out A3 c3 _ HR3.out).mono ?_; rintro e w4 ⟨A4, c4, rfl, hR, hf⟩; skip; have HR4 := Lib.hid hR; have HR3 := Lib.hid (R_fr HR3.out hf (fun _ _ h => h)); have HX := Lib.hid (HX.out.nw hf); have HN := Lib.hid (HN3.out.trans hf); have hsz := Nat.le_trans hsz hf.size; clear hR hf)
    | (go_at_call 13; (with_reducible refine Calls.mono (HE1.out w1.heap.size t _ _ HX.out HR3.out hsz) ?_); rintro e w5 ⟨rfl, hX, hf⟩; have HX := Lib.hid hX; have HR3 := Lib.hid (R_ft HR3.out hf); have HR4 := Lib.hid (R_ft HR4.out hf); have HN := Lib.hid (HN.out.trans_of hf (fun q hq e => by have := e.1; omega)); have hsz := Nat.le_trans hsz (Fr.size hf); clear hX hf)
    | (go_at_call 13; (with_reducible refine Calls.mono (HE2.out w1.heap.size t _ _ HX.out HR3.out hsz) ?_); rintro e w5 ⟨rfl, hX, hf⟩; have HX := Lib.hid hX; have HR3 := Lib.hid (R_ft HR3.out hf); have HR4 := Lib.hid (R_ft HR4.out hf); have HN := Lib.hid (HN.out.trans_of hf (fun q hq e => by have := e.1; omega)); have hsz := Nat.le_trans hsz (Fr.size hf); clear hX hf)
    | (go_at_call 20; refine (HFD.out _ _ _ HR4.out).mono ?_; rintro e w6 ⟨rfl, hf⟩; have HX := Lib.hid (HX.out.nw hf); have HR3 := Lib.hid (R_fr HR3.out hf (fun _ _ h => h)); have HR4 := Lib.hid (R_fr HR4.out hf (fun _ _ h => h)); have HN := Lib.hid (HN.out.trans hf); clear hf)
    | (go_at_call 21; (with_reducible refine Calls.mono (HSL.out w1.heap.size t _ HX.out) ?_); rintro e w7 ⟨rfl, hX, hf⟩; have HX := Lib.hid hX; have HR3 := Lib.hid (R_ft HR3.out hf); have HR4 := Lib.hid (R_ft HR4.out hf); have HN := Lib.hid (HN.out.trans_of hf (fun q hq e => by have := e.1; omega)); clear hX hf)
    | (go_at_call 22; (with_reducible refine Calls.mono (HRK.out w1.heap.size t _ HX.out) ?_); rintro e w8 ⟨rfl, hX, hf⟩; have HX := Lib.hid hX; have HR3 := Lib.hid (R_ft HR3.out hf); have HR4 := Lib.hid (R_ft HR4.out hf); have HN := Lib.hid (HN.out.trans_of hf (fun q hq e => by have := e.1; omega)); skip; clear hX hf)
    | (go_at_call 21; (with_reducible refine Calls.mono (nselect _ _) ?_); rintro e w' ⟨rfl, rfl⟩)
    | (go_at_call 22; (with_reducible refine Calls.mono (nrank _ _) ?_); rintro e w' ⟨rfl, rfl⟩)
    | (go_at_call 13; (with_reducible refine Calls.mono (neach ks A3 c3 _ HR3.out HKL.out) ?_); rintro e w' ⟨rfl, rfl⟩)
    | (go_at_call 16; refine (HSM.out w1.heap.size t _ _ HX.out (HT.out.step HN.out) HR4.out).mono ?_; rintro e w9 ⟨rfl, hX, hf⟩; have HX := Lib.hid hX; have HR3 := Lib.hid (R_ft HR3.out hf); have HN := Lib.hid (HN.out.trans_of hf (fun q hq e => by have := e.1; omega)); clear hX hf))
      go_ret
      exact ⟨rfl, HN.out⟩
    · have hi1 : ¬ i < (L.length : Int) := by omega
      clear hin hLb hLu hLl hkl
      go_enter Tryd.func5, Tryd.ntmps5
      go_wp2_with (first
    | (go_at_call 9; refine HAW.out.mono ?_; rintro e w1 ⟨rfl, hf⟩; have HN1 := Lib.hid hf; clear hf)
    | (go_at_call 10; refine (tx_new 100000 _ (by omega)).mono ?_; rintro e w2 ⟨t, rfl, hX, hf⟩; have HX := Lib.hid hX; have HN2 := Lib.hid (HN1.out.trans hf); have hsz := hf.size; have hsB := HN1.out.size; clear hX hf)
    | (go_at_call 12; refine (HW.out _ HN2.out).mono ?_; rintro e w3 ⟨A3, c3, rfl, hR, hf⟩; have HR3 := Lib.hid hR; have HX := Lib.hid (HX.out.nw hf); have HN3 := Lib.hid (HN2.out.trans hf); have hsz := Nat.le_trans hsz hf.size; clear hR hf)
    | (go_at_call 11; refine (HO.out A3 c3 _ HR3.out).mono ?_; rintro e w4 ⟨A4, c4, rfl, hR, hf⟩; skip; have HR4 := Lib.hid hR; have HR3 := Lib.hid (R_fr HR3.out hf (fun _ _ h => h)); have HX := Lib.hid (HX.out.nw hf); have HN := Lib.hid (HN3.out.trans hf); have hsz := Nat.le_trans hsz hf.size; clear hR hf)
    | (go_at_call 13; (with_reducible refine Calls.mono (HE1.out w1.heap.size t _ _ HX.out HR3.out hsz) ?_); rintro e w5 ⟨rfl, hX, hf⟩; have HX := Lib.hid hX; have HR3 := Lib.hid (R_ft HR3.out hf); have HR4 := Lib.hid (R_ft HR4.out hf); have HN := Lib.hid (HN.out.trans_of hf (fun q hq e => by have := e.1; omega)); have hsz := Nat.le_trans hsz (Fr.size hf); clear hX hf)
    | (go_at_call 13; (with_reducible refine Calls.mono (HE2.out w1.heap.size t _ _ HX.out HR3.out hsz) ?_); rintro e w5 ⟨rfl, hX, hf⟩; have HX := Lib.hid hX; have HR3 := Lib.hid (R_ft HR3.out hf); have HR4 := Lib.hid (R_ft HR4.out hf); have HN := Lib.hid (HN.out.trans_of hf (fun q hq e => by have := e.1; omega)); have hsz := Nat.le_trans hsz (Fr.size hf); clear hX hf)
    | (go_at_call 20; refine (HFD.out _ _ _ HR4.out).mono ?_; rintro e w6 ⟨rfl, hf⟩; have HX := Lib.hid (HX.out.nw hf); have HR3 := Lib.hid (R_fr HR3.out hf (fun _ _ h => h)); have HR4 := Lib.hid (R_fr HR4.out hf (fun _ _ h => h)); have HN := Lib.hid (HN.out.trans hf); clear hf)
    | (go_at_call 21; (with_reducible refine Calls.mono (HSL.out w1.heap.size t _ HX.out) ?_); rintro e w7 ⟨rfl, hX, hf⟩; have HX := Lib.hid hX; have HR3 := Lib.hid (R_ft HR3.out hf); have HR4 := Lib.hid (R_ft HR4.out hf); have HN := Lib.hid (HN.out.trans_of hf (fun q hq e => by have := e.1; omega)); clear hX hf)
    | (go_at_call 22; (with_reducible refine Calls.mono (HRK.out w1.heap.size t _ HX.out) ?_); rintro e w8 ⟨rfl, hX, hf⟩; have HX := Lib.hid hX; have HR3 := Lib.hid (R_ft HR3.out hf); have HR4 := Lib.hid (R_ft HR4.out hf); have HN := Lib.hid (HN.out.trans_of hf (fun q hq e => by have := e.1; omega)); skip; clear hX hf)
    | (go_at_call 21; (with_reducible refine Calls.mono (nselect _ _) ?_); rintro e w' ⟨rfl, rfl⟩)
    | (go_at_call 22; (with_reducible refine Calls.mono (nrank _ _) ?_); rintro e w' ⟨rfl, rfl⟩)
    | (go_at_call 13; (with_reducible refine Calls.mono (neach ks A3 c3 _ HR3.out HKL.out) ?_); rintro e w' ⟨rfl, rfl⟩)
    | (go_at_call 16; refine (HSM.out w1.heap.size t _ _ HX.out (HT.out.step HN.out) HR4.out).mono ?_; rintro e w9 ⟨rfl, hX, hf⟩; have HX := Lib.hid hX; have HR3 := Lib.hid (R_ft HR3.out hf); have HN := Lib.hid (HN.out.trans_of hf (fun q hq e => by have := e.1; omega)); clear hX hf))
      go_ret
      exact ⟨rfl, HN.out⟩
theorem ranks_row (A0 : Option Addr) (c0 : Nat) (l0 : List Int) (x1 x2 : Int) (w : World) (hr : Kd.C (Kd.int .u64) w A0 l0.length l0) (hc0 : l0.length ≤ c0) (hb : ∀ a, a ∈ l0 → 0 ≤ a ∧ a ≤ 18446744073709551615) (hn : l0.length ≤ 140737488351232) (wf1 : (Lit.int .u64 x1).wf = true) (hT : Tb w) :
    Calls Tryd.prog 5 #[.slice A0 l0.length c0, .int .u64 x1, .int .i64 x2] w fun e w' => e = .returned (.bool true) ∧ Nw w w' := by
  have hx := u64_bd wf1
  have := ranks_calls A0 c0 l0 x1.toNat x2 w hr hc0 hb hn (by omega) hT
  rw [show ((x1.toNat : Nat) : Int) = x1 by omega] at this
  exact this
end Go.Proofs.YtnhdcefoigmjpaaDoor
