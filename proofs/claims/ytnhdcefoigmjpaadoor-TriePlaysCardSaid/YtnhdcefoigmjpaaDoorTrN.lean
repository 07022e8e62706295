/-
  Merged by merge.py: TrLaw6.
-/
import Derived.Deep.RegionHeld3
import Derived.Deep.CutRange
import Derived.Test.YtnhdcefoigmjpaaDoorTrL
/-
  The walk of the law TriePlays.
-/

namespace Go.Proofs.YtnhdcefoigmjpaaDoor
open Go.RowKit Go.Proofs.YtnhdcefoigmjpaaDoorW.PrintWords Go.Proofs.YtnhdcefoigmjpaaDoorW.PrintMore
attribute [local go_sem] max2_int min2_int max_two min_two
set_option linter.unusedVariables false
set_option linter.unusedSimpArgs false
theorem ty_new (lim : Nat) (w : World) (hl : lim ≤ 1048576) :
    Calls Tryd.prog 10 #[.int .i64 lim] w fun e w' => ∃ t, e = .returned (.tuple #[.pointer (some ⟨t, 0, none⟩), .int .i64 0]) ∧ TY w' w.heap.size t [] lim 0 ∧ Nw w w' := by
  refine (tnew_ok' lim w hl).mono ?_
  rintro e w' ⟨t, m, p, rfl, h1, h2, h3, h4, h5, h6⟩
  exact ⟨t, rfl, ⟨m, p, _, _, _, _, _, _, h4, h5, h1, h2, h3, fun q hq => (by cases hq), fun q hq => (by cases hq)⟩, h6⟩
theorem TY.meter {W : World} {B t lim : Nat} {l : List Nat} {tk : Int} (h : TY W B t l lim tk) : ∃ m, W.cell? ⟨t, 0, none⟩ = some (.pointer (some ⟨m, 0, none⟩)) ∧ MT W m tk := by
  obtain ⟨m, p, ad, rows, free, cv, fv, root, h, hm, hb⟩ := h
  exact ⟨m, blk_cell h.blk 0, hm⟩
theorem tx_limit (B t lim : Nat) (l : List Nat) (w : World) (h : TX w B t l lim) : Calls Tryd.prog 31 #[.pointer (some ⟨t, 0, none⟩)] w fun e w' => e = .returned (.int .i64 lim) ∧ w = w' := by
  obtain ⟨tk, h⟩ := h.ty
  exact ty_limit B t lim l tk w h
set_option maxRecDepth 100000 in
set_option maxHeartbeats 8000000 in
theorem plays_calls (lm : Nat) (a : Option Addr) (cap : Nat) (acts : List Act2) (st : Nat) (w : World) (hst : st < 256) (hA : AC2 w a acts) (hl : acts.length ≤ 140737488351232) (hT : Tb w) :
    Calls Tryd.prog 8 #[.int .u16 (lm : Nat), .slice a acts.length cap, .int .u8 (st : Nat)] w fun e w' => e = .returned (.bool true) ∧ Nw w w' := by
  have hg : 0 < w.heap.size := World.block_lt_of_cell? w _ (hT 0 (by decide))
  obtain ⟨lim, hlim⟩ : ∃ lim, lim = lm % 5000 := ⟨_, rfl⟩
  have hm1 : Int.tmod (lm : Int) 5000 = (lim : Nat) := by rw [show (5000 : Int) = ((5000 : Nat) : Int) from rfl, tmod_nat, hlim]
  have hlm : (lim : Int) ≤ 4999 := by omega
  have HLM : Hid (lim ≤ 4999) := Lib.hid (by omega)
  obtain ⟨s5, hs5⟩ : ∃ s5, s5 = st % 5 := ⟨_, rfl⟩
  have hm2 : Int.tmod (st : Int) 5 = (s5 : Nat) := by rw [show (5 : Int) = ((5 : Nat) : Int) from rfl, tmod_nat, hs5]
  have hs4 : (s5 : Int) ≤ 4 := by omega
  have HT := Lib.hid hT
  have HAW := Lib.hid (tawake_calls w hT)
  have HA := Lib.hid hA
  clear hlim hs5 hT hA hst
  go_enter Tryd.func8, Tryd.ntmps8
  go_wp2_with (first
    | (go_at_call 9; refine HAW.out.mono ?_; rintro e w1 ⟨rfl, hf⟩; have HN1 := Lib.hid hf; clear hf)
    | (go_at_call 10; refine (ty_new lim _ (by have := HLM.out; omega)).mono ?_; rintro e w2 ⟨t, rfl, hX, hf⟩; have HX2 := Lib.hid hX; have HN2 := Lib.hid (HN1.out.trans hf); have hsz := hf.size; have hsB := HN1.out.size; clear hX hf))
  have HG1 : Hid (0 < w1.heap.size) := Lib.hid (Nat.lt_of_lt_of_le hg hsB)
  go_loopw [10, 11, 12, 13, 14, 15, 16, 36] (fun lv _ _ _ _ _ _ iv wr => ∃ (i : Nat) (l' : List Nat) (A : Option Addr) (c : Nat) (tk : Int), i ≤ acts.length ∧ i ≤ 60 ∧ iv = .int .i64 i ∧ lv = .slice A l'.length c ∧ Hid (Up l') ∧ Hid (∀ x, x ∈ l' → x < 18446744073709551616) ∧ Hid (l'.length ≤ i) ∧ Hid (used l' ≤ lim) ∧ Hid (Kd.R (Kd.int .u64) 31 wr 0 (fun _ => True) (.slice A l'.length c) (keysI l')) ∧ Hid (0 ≤ tk ∧ tk ≤ 1073741824) ∧ Hid (TY wr w1.heap.size t l' lim tk) ∧ Hid (FT w1.heap.size w2 wr)) (fun _ _ _ _ _ _ _ iv _ => acts.length - (intOf iv).toNat)
  case atStart => exact ⟨0, [], none, 0, 0, Nat.zero_le _, Nat.zero_le _, rfl, rfl, Lib.hid List.Pairwise.nil, Lib.hid (fun x hx => by cases hx), Lib.hid (Nat.le_refl _), Lib.hid (by rw [used_nil]; exact Nat.zero_le _), Lib.hid (Kd.R_nil _ _ _ _ _), Lib.hid ⟨by omega, by omega⟩, HX2, Lib.hid (FT.refl _ _)⟩
  case round =>
    obtain ⟨i, l', A, c, tk, hil, hi60, rfl, rfl, HUP, HBD, HLL, HUS, HRl, HTK, HX, HF⟩ := hrel
    have HNr := Lib.hid (HN2.out.trans_of HF.out (fun q hq e => by have := e.1; omega))
    have hszr : w1.heap.size ≤ wr.heap.size := Nat.le_trans hsz HF.out.size
    by_cases hlt : i < acts.length
    · obtain ⟨g, o, rfl, c0, c1, hd, hk⟩ := HA.out i hlt
      obtain ⟨d, hdd⟩ : ∃ d, d = (acts[i]).1 := ⟨_, rfl⟩
      obtain ⟨k, hkk⟩ : ∃ k, k = (acts[i]).2 := ⟨_, rfl⟩
      rw [← hdd] at c0 hd
      rw [← hkk] at c1 hk
      have c0 := HNr.out.cell c0 (fun h => h)
      have c1 := HNr.out.cell c1 (fun h => h)
      have hgl : g < wr.heap.size := World.block_lt_of_cell? wr _ c0
      clear hdd hkk
      by_cases h60 : i < 60
      · have h60' : ¬ (60 : Int) ≤ (i : Int) := by omega
        have hlt' : (i : Int) < (acts.length : Int) := by omega
        obtain ⟨r, hr⟩ : ∃ r, r = d % 9 := ⟨_, rfl⟩
        have hmr : Int.tmod (d : Int) 9 = (r : Nat) := by rw [show (9 : Int) = ((9 : Nat) : Int) from rfl, tmod_nat, hr]
        have hdo := fun w' (hf : Nw wr w') => refdo_calls A c l' d k w' (R_fr HRl.out hf (fun _ _ h => h)) HUP.out (by have := HLL.out; omega) HBD.out
        have hst := fun w' => steps_calls d w'
        rw [← hr] at hdo hst
        obtain ⟨E, hE⟩ : ∃ E, E = (ansA l' r k).1.1 := ⟨_, rfl⟩
        obtain ⟨K, hK⟩ : ∃ K, K = (ansA l' r k).1.2.1 := ⟨_, rfl⟩
        obtain ⟨Y, hY⟩ : ∃ Y, Y = (ansA l' r k).1.2.2 := ⟨_, rfl⟩
        obtain ⟨m, hm⟩ : ∃ m, m = (ansA l' r k).2 := ⟨_, rfl⟩
        rw [← hE, ← hK, ← hY, ← hm] at hdo
        have HDO := Lib.hid hdo
        obtain ⟨sn, hsn⟩ : ∃ sn, sn = stepsN r := ⟨_, rfl⟩
        rw [← hsn] at hst
        have HSN2 := Lib.hid hsn
        have HST := Lib.hid hst
        have HSN : Hid (sn ≤ 1073741824) := Lib.hid (by rw [hsn]; unfold stepsN; (repeat' split) <;> omega)
        have hmu : Up m := by rw [hm]; exact ansA_up HUP.out r k
        have hmb : ∀ x, x ∈ m → x < 18446744073709551616 := fun x hx => by
          rw [hm] at hx
          rcases ansA_mem hx with h | h
          · exact HBD.out x h
          · rw [h]; exact hk
        have hml : m.length ≤ i + 1 := by rw [hm]; have := ansA_len l' r k; have := HLL.out; omega
        have HTF := Lib.hid (fun A c w' h => tref_calls A c m w' h (by omega) hmb)
        obtain ⟨u, hu⟩ : ∃ u, u = used m := ⟨_, rfl⟩
        rw [← hu] at HTF
        have HU := Lib.hid hu
        have HMU := Lib.hid hmu
        have HMB := Lib.hid hmb
        have HML := Lib.hid hml
        clear hdo hst hmu hmb hml hu hsn
        have hw2r : w2.heap.size ≤ wr.heap.size := HF.out.size
        by_cases hfull : FullA lim l' r k
        · obtain ⟨hr2, he0, hu0⟩ := (full_iff lim l' r k).1 hfull
          rw [← hE] at he0
          rw [← hm, ← HU.out] at hu0
          have hkm := hfull.2.1
          have hK0 : K = 0 := by rw [hK]; unfold ansA; rw [if_pos hr2, if_neg hkm]
          have hY0 : Y = false := by rw [hY]; unfold ansA; rw [if_pos hr2, if_neg hkm]
          have hdl : ∀ w', Nw wr w' → Calls Tryd.prog 34 #[.pointer (some ⟨t, 0, none⟩), .agg #[.int .u8 (d : Nat), .int .u64 (k : Nat)]] w' fun e w'' => e = .returned (.agg #[.int .i64 5, .int .u64 (K : Nat), .bool Y]) ∧ (∃ tk' : Int, 0 ≤ tk' ∧ tk' ≤ (stepsN r : Nat) ∧ TY w'' w1.heap.size t l' lim tk') ∧ FT w1.heap.size w' w'' := fun w' hf => by
            have := do_full w1.heap.size t lim l' tk d k w' (HX.out.nw hf) (Nat.le_trans hszr hf.size) hk (by have := HLL.out; omega) (by rw [← hr]; exact hfull)
            rw [← hr] at this
            rw [hK0, hY0]
            exact this
          have HDL := Lib.hid hdl
          have hr2' : (r : Int) < 2 := by omega
          have hE0' : ((E : Int) == 0) = true := by rw [he0]; rfl
          have hul' : (lim : Int) < (u : Int) := by omega
          obtain ⟨ul, hul0⟩ : ∃ ul, ul = used l' := ⟨_, rfl⟩
          have HUL : Hid (ul ≤ lim) := Lib.hid (by rw [hul0]; exact HUS.out)
          have HU2 := Lib.hid hul0
          clear hdl hm hE hK hY hr hfull hr2 he0 hu0 hkm hK0 hY0 hul0
          go_wp2_with (first
              | (go_at_call 33; refine (HDO.out _ ((Fr.refl _ _).alloc _)).mono ?_; rintro e w3 ⟨A2, c2, rfl, hR, hf⟩; have hb12 := hf.blk (blk_new wr (.cells #[.int .u8 d, .int .u64 k] 55)) (fun h => h); have x0 : w3.cell? ⟨wr.heap.size, 0, none⟩ = some (.int .u8 (d : Nat)) := blk_cell hb12 0; have x1 : w3.cell? ⟨wr.heap.size, 1, none⟩ = some (.int .u64 (k : Nat)) := blk_cell hb12 1; have HB12 := Lib.hid hb12; have HRm := Lib.hid hR; have HN3 := Lib.hid (((Fr.refl (fun _ => False) wr).alloc (.cells #[.int .u8 d, .int .u64 k] 55)).trans hf); have hl3 := blk_lt hb12; clear hf hb12 hR)
              | (go_at_call 34; refine (HDL.out _ (HN3.out.alloc _)).mono ?_; rintro e w4 ⟨rfl, ⟨tk2, q1, q2, ht⟩, hf⟩; have hb12 := hf.blk (blk_alloc HB12.out _) (fun e => trb_ty (blk_alloc HB12.out _) (by decide) (by decide) (by decide) (by decide) (by decide) e.2); have hb15 := hf.blk (blk_new w3 (.cells #[.int .i64 E, .int .u64 K, .bool Y] 57)) (fun e => trb_ty (blk_new w3 _) (by decide) (by decide) (by decide) (by decide) (by decide) e.2); clear x0 x1; have x0 : w4.cell? ⟨wr.heap.size, 0, none⟩ = some (.int .u8 (d : Nat)) := blk_cell hb12 0; obtain ⟨y0, y1, y2⟩ := cells3 hb15; have z0 := blk_frozen hb15 0; have HB12 := Lib.hid hb12; have HB15 := Lib.hid hb15; have HX4 := Lib.hid ht; have HRm := Lib.hid (R_ft (R_fr HRm.out ((Fr.refl (fun _ => False) w3).alloc (.cells #[.int .i64 E, .int .u64 K, .bool Y] 57)) (fun _ _ h => h)) hf); have HRl := Lib.hid (R_ft (R_fr HRl.out (HN3.out.alloc (.cells #[.int .i64 E, .int .u64 K, .bool Y] 57)) (fun _ _ h => h)) hf); have HF := Lib.hid ((HF.out.trans (FT.nw (HN3.out.alloc (.cells #[.int .i64 E, .int .u64 K, .bool Y] 57)))).trans hf); have hl15 := blk_lt hb15; have hl12 := blk_lt hb12; have ht4 := Nat.lt_of_lt_of_le hl15 (Nat.le_refl _); clear ht hf hb12 hb15)
              | (go_at_call 18; refine (HTF.out _ _ _ (R_fr HRm.out ((Fr.refl (fun _ => False) w4).alloc (.cells #[.int .i64 5, .int .u64 (K : Nat), .bool Y] 57)) (fun _ _ h => h))).mono ?_; rintro e w5 ⟨rfl, hf⟩; have hb15 := hf.blk (blk_alloc HB15.out (.cells #[.int .i64 5, .int .u64 (K : Nat), .bool Y] 57)) (fun h => h); have hb12 := hf.blk (blk_alloc HB12.out (.cells #[.int .i64 5, .int .u64 (K : Nat), .bool Y] 57)) (fun h => h); have HB16 := Lib.hid (hf.blk (blk_new w4 (.cells #[.int .i64 5, .int .u64 (K : Nat), .bool Y] 57)) (fun h => h)); clear x0 y0 y1 y2 z0; have x0 : w5.cell? ⟨wr.heap.size, 0, none⟩ = some (.int .u8 (d : Nat)) := blk_cell hb12 0; obtain ⟨y0, y1, y2⟩ := cells3 hb15; have z0 := blk_frozen hb15 0; have hl5 := Nat.lt_of_lt_of_le hl15 (Nat.le_trans (Nat.le_of_lt (by simp)) hf.size); have HF5 := Lib.hid (((Fr.refl (fun _ => False) w4).alloc (.cells #[.int .i64 5, .int .u64 (K : Nat), .bool Y] 57)).trans hf); clear hf hb12 hb15))
          have FRs : Fr (One w3.heap.size) w4 (w5.setCell ⟨w3.heap.size, 0, none⟩ (.int .i64 5)) := (HF5.out.mono (fun _ _ h => h.elim)).trans ((Fr.refl (One w3.heap.size) w5).set (One.self _) 0 (.int .i64 5))
          have HZ12 := Lib.hid (FRs.blk HB12.out (by simp only [One]; omega)); have HZ15 := Lib.hid (blk_set (HF5.out.blk HB15.out (fun h => h)) 0 (.int .i64 5)); have HZ16 := Lib.hid (((Fr.refl (One w3.heap.size) w5).set (One.self _) 0 (.int .i64 5)).blk HB16.out (by simp only [One]; omega)); have HXz := Lib.hid (HX4.out.fr FRs (fun q hq => by rw [show q = w3.heap.size from hq]; exact trb_ty HB15.out (by decide) (by decide) (by decide) (by decide) (by decide))); have HRz := Lib.hid (R_fr HRl.out FRs (fun q hq => by obtain ⟨_, hc⟩ := own_blk (Kd.own_of_R HRl.out) q hq; exact typ_ne hc HB15.out (by decide))); have HFz : Hid (FT w1.heap.size w2 (w5.setCell ⟨w3.heap.size, 0, none⟩ (.int .i64 5))) := Lib.hid (HF.out.trans_new FRs (by omega)); obtain ⟨mt, cm, hmt⟩ := HXz.out.meter; have HMT := Lib.hid hmt; clear hmt; obtain ⟨wz, hwz⟩ : ∃ wz, wz = (w5.setCell ⟨w3.heap.size, 0, none⟩ (.int .i64 5)) := ⟨_, rfl⟩; rw [← hwz] at HZ12 HZ15 HZ16 HXz HRz HFz HMT cm ⊢; clear hwz x0 y0 y1 y2 z0 c0 c1; obtain ⟨y0, y1, y2⟩ := cells3 HZ15.out; obtain ⟨v0, v1, v2⟩ := cells3 HZ16.out; have x0 : wz.cell? ⟨wr.heap.size, 0, none⟩ = some (.int .u8 (d : Nat)) := blk_cell HZ12.out 0; have hne := fun W => ans_neq 5 (K : Nat) Y W; have HUE := Lib.hid (fun w' (h : Nw wz w') => tx_used w1.heap.size t lim l' w' (HXz.out.nw h).tx); have HTE := Lib.hid (fun w' (h : Nw wz w') => tref_calls A c l' w' (R_fr HRz.out h (fun _ _ h => h)) (by have := HLL.out; omega) HBD.out); have HTA := Lib.hid (fun w' (h : Nw wz w') => mt_taken mt tk2 w' (HMT.out.fr h (fun h => h))); (rw [← HU2.out] at HUE HTE; clear hul'; clear FRs); have hsq : decide ((sn : Int) < tk2) = false := decide_eq_false (by rw [HSN2.out]; omega); have hub1 : decide ((lim : Int) < (ul : Int)) = false := decide_eq_false (by have := HUL.out; omega); have hub2 : decide (lim < ul) = false := decide_eq_false (by have := HUL.out; omega)
          go_region_held3 (fun w' => w'.cell? ⟨w4.heap.size, 0, none⟩ = some (.int .i64 5) ∧ w'.cell? ⟨w4.heap.size, 1, none⟩ = some (.int .u64 (K : Nat)) ∧ w'.cell? ⟨w4.heap.size, 2, none⟩ = some (.bool Y) ∧ w'.cell? ⟨w3.heap.size, 0, none⟩ = some (.int .i64 5) ∧ w'.cell? ⟨w3.heap.size, 1, none⟩ = some (.int .u64 (K : Nat)) ∧ w'.cell? ⟨w3.heap.size, 2, none⟩ = some (.bool Y) ∧ w'.cell? ⟨wr.heap.size, 0, none⟩ = some (.int .u8 (d : Nat)) ∧ w'.cell? ⟨t, 0, none⟩ = some (.pointer (some ⟨mt, 0, none⟩)) ∧ Nw wz w')
              (first
                | exact ⟨v0, v1, v2, y0, y1, y2, x0, cm, (Fr.refl (fun _ => False) wz).drew⟩
                | (go_split_ands; exact ⟨hF.cell (by assumption) (fun h => h), hF.cell (by assumption) (fun h => h), hF.cell (by assumption) (fun h => h), hF.cell (by assumption) (fun h => h), hF.cell (by assumption) (fun h => h), hF.cell (by assumption) (fun h => h), hF.cell (by assumption) (fun h => h), hF.cell (by assumption) (fun h => h), Fr.trans (by assumption) hF⟩)
                | (go_split_ands; exact ⟨by assumption, by assumption, by assumption, by assumption, by assumption, by assumption, by assumption, by assumption, by assumption⟩))
              (first
                | (go_at_call 19; refine (HUE.out _ (by go_split_ands; assumption)).mono ?_; rintro e wa ⟨rfl, rfl⟩)
                | (go_at_call 18; refine (HTE.out _ (by go_split_ands; assumption)).mono ?_; rintro e wa ⟨rfl, hF⟩)
                | (go_at_call 35; refine (HTA.out _ (by go_split_ands; assumption)).mono ?_; rintro e wa ⟨rfl, hF⟩)
                | (go_at_call 36; refine (HST.out _).mono ?_; rintro e wa ⟨rfl, hF⟩))
          all_goals go_wp2
          all_goals go_roundw
          any_goals (show (_ : Nat) < _; simp only [intOf]; omega)
          all_goals (
            have hNz : Nw wz _ := (by go_split_ands; assumption)
            exact ⟨i + 1, l', A, c, tk2, by omega, by omega, by go_num, rfl, HUP, HBD, Lib.hid (by have := HLL.out; omega), HUS, Lib.hid (R_fr HRz.out hNz (fun _ _ h => h)), Lib.hid ⟨q1, by have h1 := HSN.out; have h2 := HSN2.out; omega⟩, Lib.hid (HXz.out.nw hNz), Lib.hid (HFz.out.trans (FT.nw hNz))⟩)
        · have hdl := fun w' (hf : Nw wr w') => do_calls w1.heap.size t lim l' tk d k w' (HX.out.nw hf) (Nat.le_trans hszr hf.size) (HT.out.step (HNr.out.trans hf)) HG1.out hk (by have := HLL.out; omega) HTK.out.1 HTK.out.2 (by rw [← hr]; exact hfull)
          rw [← hr, ← hE, ← hK, ← hY, ← hm] at hdl
          have HDL := Lib.hid hdl
          have hul : u ≤ lim := by have := ansA_used HUP.out HUS.out hfull; rw [← hm] at this; rw [HU.out]; exact this
          have hul' : ¬ (lim : Int) < (u : Int) := by omega
          have HUL := Lib.hid hul
          clear hdl hm hE hK hY hr hul
          by_cases hr2 : r < 2
          · have hr2' : (r : Int) < 2 := by omega
            clear hfull hr2
            by_cases hE0 : E = 0
            · have hE0' : ((E : Int) == 0) = true := by rw [hE0]; rfl
              clear hE0
              go_wp2_with (first
              | (go_at_call 33; refine (HDO.out _ ((Fr.refl _ _).alloc _)).mono ?_; rintro e w3 ⟨A2, c2, rfl, hR, hf⟩; have hb12 := hf.blk (blk_new wr (.cells #[.int .u8 d, .int .u64 k] 55)) (fun h => h); have x0 : w3.cell? ⟨wr.heap.size, 0, none⟩ = some (.int .u8 (d : Nat)) := blk_cell hb12 0; have x1 : w3.cell? ⟨wr.heap.size, 1, none⟩ = some (.int .u64 (k : Nat)) := blk_cell hb12 1; have HB12 := Lib.hid hb12; have HRm := Lib.hid hR; have HN3 := Lib.hid (((Fr.refl (fun _ => False) wr).alloc (.cells #[.int .u8 d, .int .u64 k] 55)).trans hf); have hl3 := blk_lt hb12; clear hf hb12 hR)
              | (go_at_call 34; refine (HDL.out _ (HN3.out.alloc _)).mono ?_; rintro e w4 ⟨rfl, ⟨tk2, q1, q2, ht⟩, hf⟩; have hb12 := hf.blk (blk_alloc HB12.out _) (fun e => trb_ty (blk_alloc HB12.out _) (by decide) (by decide) (by decide) (by decide) (by decide) e.2); have hb15 := hf.blk (blk_new w3 (.cells #[.int .i64 E, .int .u64 K, .bool Y] 57)) (fun e => trb_ty (blk_new w3 _) (by decide) (by decide) (by decide) (by decide) (by decide) e.2); clear x0 x1; have x0 : w4.cell? ⟨wr.heap.size, 0, none⟩ = some (.int .u8 (d : Nat)) := blk_cell hb12 0; obtain ⟨y0, y1, y2⟩ := cells3 hb15; have z0 := blk_frozen hb15 0; have HB12 := Lib.hid hb12; have HB15 := Lib.hid hb15; have HX4 := Lib.hid ht; have HRm := Lib.hid (R_ft (R_fr HRm.out ((Fr.refl (fun _ => False) w3).alloc (.cells #[.int .i64 E, .int .u64 K, .bool Y] 57)) (fun _ _ h => h)) hf); have HRl := Lib.hid (R_ft (R_fr HRl.out (HN3.out.alloc (.cells #[.int .i64 E, .int .u64 K, .bool Y] 57)) (fun _ _ h => h)) hf); have HF := Lib.hid ((HF.out.trans (FT.nw (HN3.out.alloc (.cells #[.int .i64 E, .int .u64 K, .bool Y] 57)))).trans hf); have hl15 := blk_lt hb15; have hl12 := blk_lt hb12; have ht4 := Nat.lt_of_lt_of_le hl15 (Nat.le_refl _); clear ht hf hb12 hb15)
              | (go_at_call 18; refine (HTF.out _ _ _ (R_fr HRm.out ((Fr.refl (fun _ => False) w4).alloc (.cells #[.int .i64 (E : Nat), .int .u64 (K : Nat), .bool Y] 57)) (fun _ _ h => h))).mono ?_; rintro e w5 ⟨rfl, hf⟩; have hb15 := hf.blk (blk_alloc HB15.out (.cells #[.int .i64 (E : Nat), .int .u64 (K : Nat), .bool Y] 57)) (fun h => h); have hb12 := hf.blk (blk_alloc HB12.out (.cells #[.int .i64 (E : Nat), .int .u64 (K : Nat), .bool Y] 57)) (fun h => h); have HB16 := Lib.hid (hf.blk (blk_new w4 (.cells #[.int .i64 (E : Nat), .int .u64 (K : Nat), .bool Y] 57)) (fun h => h)); clear x0 y0 y1 y2 z0; have x0 : w5.cell? ⟨wr.heap.size, 0, none⟩ = some (.int .u8 (d : Nat)) := blk_cell hb12 0; obtain ⟨y0, y1, y2⟩ := cells3 hb15; have z0 := blk_frozen hb15 0; have hl5 := Nat.lt_of_lt_of_le hl15 (Nat.le_trans (Nat.le_of_lt (by simp)) hf.size); have HF5 := Lib.hid (((Fr.refl (fun _ => False) w4).alloc (.cells #[.int .i64 (E : Nat), .int .u64 (K : Nat), .bool Y] 57)).trans hf); clear hf hb12 hb15))
              have HZ12 := Lib.hid ((HF5.out).blk HB12.out (fun h => h)); have HZ15 := Lib.hid ((HF5.out).blk HB15.out (fun h => h)); have HZ16 := Lib.hid HB16.out; have HXz := Lib.hid (HX4.out.nw HF5.out); have HRz := Lib.hid (R_fr HRm.out HF5.out (fun _ _ h => h)); have HFz : Hid (FT w1.heap.size w2 w5) := Lib.hid (HF.out.trans (FT.nw (B := w1.heap.size) HF5.out)); obtain ⟨mt, cm, hmt⟩ := HXz.out.meter; have HMT := Lib.hid hmt; clear hmt; obtain ⟨wz, hwz⟩ : ∃ wz, wz = w5 := ⟨_, rfl⟩; rw [← hwz] at HZ12 HZ15 HZ16 HXz HRz HFz HMT cm ⊢; clear hwz x0 y0 y1 y2 z0 c0 c1; obtain ⟨y0, y1, y2⟩ := cells3 HZ15.out; obtain ⟨v0, v1, v2⟩ := cells3 HZ16.out; have x0 : wz.cell? ⟨wr.heap.size, 0, none⟩ = some (.int .u8 (d : Nat)) := blk_cell HZ12.out 0; have hne := fun W => ans_neq (E : Nat) (K : Nat) Y W; have HUE := Lib.hid (fun w' (h : Nw wz w') => tx_used w1.heap.size t lim m w' (HXz.out.nw h).tx); have HTE := Lib.hid (fun w' (h : Nw wz w') => tref_calls A2 c2 m w' (R_fr HRz.out h (fun _ _ h => h)) (by have := HML.out; omega) HMB.out); have HTA := Lib.hid (fun w' (h : Nw wz w') => mt_taken mt tk2 w' (HMT.out.fr h (fun h => h))); (rw [← HU.out] at HUE HTE; clear hul'); have hsq : decide ((sn : Int) < tk2) = false := decide_eq_false (by rw [HSN2.out]; omega); have hub1 : decide ((lim : Int) < (u : Int)) = false := decide_eq_false (by have := HUL.out; omega); have hub2 : decide (lim < u) = false := decide_eq_false (by have := HUL.out; omega)
              go_region_held3 (fun w' => w'.cell? ⟨w4.heap.size, 0, none⟩ = some (.int .i64 (E : Nat)) ∧ w'.cell? ⟨w4.heap.size, 1, none⟩ = some (.int .u64 (K : Nat)) ∧ w'.cell? ⟨w4.heap.size, 2, none⟩ = some (.bool Y) ∧ w'.cell? ⟨w3.heap.size, 0, none⟩ = some (.int .i64 (E : Nat)) ∧ w'.cell? ⟨w3.heap.size, 1, none⟩ = some (.int .u64 (K : Nat)) ∧ w'.cell? ⟨w3.heap.size, 2, none⟩ = some (.bool Y) ∧ w'.cell? ⟨wr.heap.size, 0, none⟩ = some (.int .u8 (d : Nat)) ∧ w'.cell? ⟨t, 0, none⟩ = some (.pointer (some ⟨mt, 0, none⟩)) ∧ Nw wz w')
              (first
                | exact ⟨v0, v1, v2, y0, y1, y2, x0, cm, (Fr.refl (fun _ => False) wz).drew⟩
                | (go_split_ands; exact ⟨hF.cell (by assumption) (fun h => h), hF.cell (by assumption) (fun h => h), hF.cell (by assumption) (fun h => h), hF.cell (by assumption) (fun h => h), hF.cell (by assumption) (fun h => h), hF.cell (by assumption) (fun h => h), hF.cell (by assumption) (fun h => h), hF.cell (by assumption) (fun h => h), Fr.trans (by assumption) hF⟩)
                | (go_split_ands; exact ⟨by assumption, by assumption, by assumption, by assumption, by assumption, by assumption, by assumption, by assumption, by assumption⟩))
              (first
                | (go_at_call 19; refine (HUE.out _ (by go_split_ands; assumption)).mono ?_; rintro e wa ⟨rfl, rfl⟩)
                | (go_at_call 18; refine (HTE.out _ (by go_split_ands; assumption)).mono ?_; rintro e wa ⟨rfl, hF⟩)
                | (go_at_call 35; refine (HTA.out _ (by go_split_ands; assumption)).mono ?_; rintro e wa ⟨rfl, hF⟩)
                | (go_at_call 36; refine (HST.out _).mono ?_; rintro e wa ⟨rfl, hF⟩))
              all_goals go_wp2
              all_goals go_roundw
              any_goals (show (_ : Nat) < _; simp only [intOf]; omega)
              all_goals (
                have hNz : Nw wz _ := (by go_split_ands; assumption)
                exact ⟨i + 1, m, A2, c2, tk2, by omega, by omega, by go_num, rfl, HMU, HMB, Lib.hid (by have := HML.out; omega), Lib.hid (by rw [← HU.out]; exact HUL.out), Lib.hid (R_fr HRz.out hNz (fun _ _ h => h)), Lib.hid ⟨q1, by have h1 := HSN.out; have h2 := HSN2.out; omega⟩, Lib.hid (HXz.out.nw hNz), Lib.hid (HFz.out.trans (FT.nw hNz))⟩)
            · have hE0' : ((E : Int) == 0) = false := by rw [beq_eq_false_iff_ne]; omega
              clear hE0
              go_wp2_with (first
              | (go_at_call 33; refine (HDO.out _ ((Fr.refl _ _).alloc _)).mono ?_; rintro e w3 ⟨A2, c2, rfl, hR, hf⟩; have hb12 := hf.blk (blk_new wr (.cells #[.int .u8 d, .int .u64 k] 55)) (fun h => h); have x0 : w3.cell? ⟨wr.heap.size, 0, none⟩ = some (.int .u8 (d : Nat)) := blk_cell hb12 0; have x1 : w3.cell? ⟨wr.heap.size, 1, none⟩ = some (.int .u64 (k : Nat)) := blk_cell hb12 1; have HB12 := Lib.hid hb12; have HRm := Lib.hid hR; have HN3 := Lib.hid (((Fr.refl (fun _ => False) wr).alloc (.cells #[.int .u8 d, .int .u64 k] 55)).trans hf); have hl3 := blk_lt hb12; clear hf hb12 hR)
              | (go_at_call 34; refine (HDL.out _ (HN3.out.alloc _)).mono ?_; rintro e w4 ⟨rfl, ⟨tk2, q1, q2, ht⟩, hf⟩; have hb12 := hf.blk (blk_alloc HB12.out _) (fun e => trb_ty (blk_alloc HB12.out _) (by decide) (by decide) (by decide) (by decide) (by decide) e.2); have hb15 := hf.blk (blk_new w3 (.cells #[.int .i64 E, .int .u64 K, .bool Y] 57)) (fun e => trb_ty (blk_new w3 _) (by decide) (by decide) (by decide) (by decide) (by decide) e.2); clear x0 x1; have x0 : w4.cell? ⟨wr.heap.size, 0, none⟩ = some (.int .u8 (d : Nat)) := blk_cell hb12 0; obtain ⟨y0, y1, y2⟩ := cells3 hb15; have z0 := blk_frozen hb15 0; have HB12 := Lib.hid hb12; have HB15 := Lib.hid hb15; have HX4 := Lib.hid ht; have HRm := Lib.hid (R_ft (R_fr HRm.out ((Fr.refl (fun _ => False) w3).alloc (.cells #[.int .i64 E, .int .u64 K, .bool Y] 57)) (fun _ _ h => h)) hf); have HRl := Lib.hid (R_ft (R_fr HRl.out (HN3.out.alloc (.cells #[.int .i64 E, .int .u64 K, .bool Y] 57)) (fun _ _ h => h)) hf); have HF := Lib.hid ((HF.out.trans (FT.nw (HN3.out.alloc (.cells #[.int .i64 E, .int .u64 K, .bool Y] 57)))).trans hf); have hl15 := blk_lt hb15; have hl12 := blk_lt hb12; have ht4 := Nat.lt_of_lt_of_le hl15 (Nat.le_refl _); clear ht hf hb12 hb15)
              | (go_at_call 18; refine (HTF.out _ _ _ (R_fr HRm.out ((Fr.refl (fun _ => False) w4).alloc (.cells #[.int .i64 (E : Nat), .int .u64 (K : Nat), .bool Y] 57)) (fun _ _ h => h))).mono ?_; rintro e w5 ⟨rfl, hf⟩; have hb15 := hf.blk (blk_alloc HB15.out (.cells #[.int .i64 (E : Nat), .int .u64 (K : Nat), .bool Y] 57)) (fun h => h); have hb12 := hf.blk (blk_alloc HB12.out (.cells #[.int .i64 (E : Nat), .int .u64 (K : Nat), .bool Y] 57)) (fun h => h); have HB16 := Lib.hid (hf.blk (blk_new w4 (.cells #[.int .i64 (E : Nat), .int .u64 (K : Nat), .bool Y] 57)) (fun h => h)); clear x0 y0 y1 y2 z0; have x0 : w5.cell? ⟨wr.heap.size, 0, none⟩ = some (.int .u8 (d : Nat)) := blk_cell hb12 0; obtain ⟨y0, y1, y2⟩ := cells3 hb15; have z0 := blk_frozen hb15 0; have hl5 := Nat.lt_of_lt_of_le hl15 (Nat.le_trans (Nat.le_of_lt (by simp)) hf.size); have HF5 := Lib.hid (((Fr.refl (fun _ => False) w4).alloc (.cells #[.int .i64 (E : Nat), .int .u64 (K : Nat), .bool Y] 57)).trans hf); clear hf hb12 hb15))
              have HZ12 := Lib.hid ((((Fr.refl (fun _ => False) w4).alloc (.cells #[.int .i64 (E : Nat), .int .u64 (K : Nat), .bool Y] 57))).blk HB12.out (fun h => h)); have HZ15 := Lib.hid ((((Fr.refl (fun _ => False) w4).alloc (.cells #[.int .i64 (E : Nat), .int .u64 (K : Nat), .bool Y] 57))).blk HB15.out (fun h => h)); have HZ16 := Lib.hid (blk_new w4 (.cells #[.int .i64 (E : Nat), .int .u64 (K : Nat), .bool Y] 57)); have HXz := Lib.hid (HX4.out.nw ((Fr.refl (fun _ => False) w4).alloc (.cells #[.int .i64 (E : Nat), .int .u64 (K : Nat), .bool Y] 57))); have HRz := Lib.hid (R_fr HRm.out ((Fr.refl (fun _ => False) w4).alloc (.cells #[.int .i64 (E : Nat), .int .u64 (K : Nat), .bool Y] 57)) (fun _ _ h => h)); have HFz : Hid (FT w1.heap.size w2 (w4.alloc (.cells #[.int .i64 (E : Nat), .int .u64 (K : Nat), .bool Y] 57))) := Lib.hid (HF.out.trans (FT.nw (B := w1.heap.size) ((Fr.refl (fun _ => False) w4).alloc (.cells #[.int .i64 (E : Nat), .int .u64 (K : Nat), .bool Y] 57)))); obtain ⟨mt, cm, hmt⟩ := HXz.out.meter; have HMT := Lib.hid hmt; clear hmt; obtain ⟨wz, hwz⟩ : ∃ wz, wz = (w4.alloc (.cells #[.int .i64 (E : Nat), .int .u64 (K : Nat), .bool Y] 57)) := ⟨_, rfl⟩; rw [← hwz] at HZ12 HZ15 HZ16 HXz HRz HFz HMT cm ⊢; clear hwz x0 y0 y1 y2 z0 c0 c1; obtain ⟨y0, y1, y2⟩ := cells3 HZ15.out; obtain ⟨v0, v1, v2⟩ := cells3 HZ16.out; have x0 : wz.cell? ⟨wr.heap.size, 0, none⟩ = some (.int .u8 (d : Nat)) := blk_cell HZ12.out 0; have hne := fun W => ans_neq (E : Nat) (K : Nat) Y W; have HUE := Lib.hid (fun w' (h : Nw wz w') => tx_used w1.heap.size t lim m w' (HXz.out.nw h).tx); have HTE := Lib.hid (fun w' (h : Nw wz w') => tref_calls A2 c2 m w' (R_fr HRz.out h (fun _ _ h => h)) (by have := HML.out; omega) HMB.out); have HTA := Lib.hid (fun w' (h : Nw wz w') => mt_taken mt tk2 w' (HMT.out.fr h (fun h => h))); (rw [← HU.out] at HUE HTE; clear hul'); have hsq : decide ((sn : Int) < tk2) = false := decide_eq_false (by rw [HSN2.out]; omega); have hub1 : decide ((lim : Int) < (u : Int)) = false := decide_eq_false (by have := HUL.out; omega); have hub2 : decide (lim < u) = false := decide_eq_false (by have := HUL.out; omega)
              go_region_held3 (fun w' => w'.cell? ⟨w4.heap.size, 0, none⟩ = some (.int .i64 (E : Nat)) ∧ w'.cell? ⟨w4.heap.size, 1, none⟩ = some (.int .u64 (K : Nat)) ∧ w'.cell? ⟨w4.heap.size, 2, none⟩ = some (.bool Y) ∧ w'.cell? ⟨w3.heap.size, 0, none⟩ = some (.int .i64 (E : Nat)) ∧ w'.cell? ⟨w3.heap.size, 1, none⟩ = some (.int .u64 (K : Nat)) ∧ w'.cell? ⟨w3.heap.size, 2, none⟩ = some (.bool Y) ∧ w'.cell? ⟨wr.heap.size, 0, none⟩ = some (.int .u8 (d : Nat)) ∧ w'.cell? ⟨t, 0, none⟩ = some (.pointer (some ⟨mt, 0, none⟩)) ∧ Nw wz w')
              (first
                | exact ⟨v0, v1, v2, y0, y1, y2, x0, cm, (Fr.refl (fun _ => False) wz).drew⟩
                | (go_split_ands; exact ⟨hF.cell (by assumption) (fun h => h), hF.cell (by assumption) (fun h => h), hF.cell (by assumption) (fun h => h), hF.cell (by assumption) (fun h => h), hF.cell (by assumption) (fun h => h), hF.cell (by assumption) (fun h => h), hF.cell (by assumption) (fun h => h), hF.cell (by assumption) (fun h => h), Fr.trans (by assumption) hF⟩)
                | (go_split_ands; exact ⟨by assumption, by assumption, by assumption, by assumption, by assumption, by assumption, by assumption, by assumption, by assumption⟩))
              (first
                | (go_at_call 19; refine (HUE.out _ (by go_split_ands; assumption)).mono ?_; rintro e wa ⟨rfl, rfl⟩)
                | (go_at_call 18; refine (HTE.out _ (by go_split_ands; assumption)).mono ?_; rintro e wa ⟨rfl, hF⟩)
                | (go_at_call 35; refine (HTA.out _ (by go_split_ands; assumption)).mono ?_; rintro e wa ⟨rfl, hF⟩)
                | (go_at_call 36; refine (HST.out _).mono ?_; rintro e wa ⟨rfl, hF⟩))
              all_goals go_wp2
              all_goals go_roundw
              any_goals (show (_ : Nat) < _; simp only [intOf]; omega)
              all_goals (
                have hNz : Nw wz _ := (by go_split_ands; assumption)
                exact ⟨i + 1, m, A2, c2, tk2, by omega, by omega, by go_num, rfl, HMU, HMB, Lib.hid (by have := HML.out; omega), Lib.hid (by rw [← HU.out]; exact HUL.out), Lib.hid (R_fr HRz.out hNz (fun _ _ h => h)), Lib.hid ⟨q1, by have h1 := HSN.out; have h2 := HSN2.out; omega⟩, Lib.hid (HXz.out.nw hNz), Lib.hid (HFz.out.trans (FT.nw hNz))⟩)
          · have hr2' : ¬ (r : Int) < 2 := by omega
            clear hfull hr2
            go_wp2_with (first
              | (go_at_call 33; refine (HDO.out _ ((Fr.refl _ _).alloc _)).mono ?_; rintro e w3 ⟨A2, c2, rfl, hR, hf⟩; have hb12 := hf.blk (blk_new wr (.cells #[.int .u8 d, .int .u64 k] 55)) (fun h => h); have x0 : w3.cell? ⟨wr.heap.size, 0, none⟩ = some (.int .u8 (d : Nat)) := blk_cell hb12 0; have x1 : w3.cell? ⟨wr.heap.size, 1, none⟩ = some (.int .u64 (k : Nat)) := blk_cell hb12 1; have HB12 := Lib.hid hb12; have HRm := Lib.hid hR; have HN3 := Lib.hid (((Fr.refl (fun _ => False) wr).alloc (.cells #[.int .u8 d, .int .u64 k] 55)).trans hf); have hl3 := blk_lt hb12; clear hf hb12 hR)
              | (go_at_call 34; refine (HDL.out _ (HN3.out.alloc _)).mono ?_; rintro e w4 ⟨rfl, ⟨tk2, q1, q2, ht⟩, hf⟩; have hb12 := hf.blk (blk_alloc HB12.out _) (fun e => trb_ty (blk_alloc HB12.out _) (by decide) (by decide) (by decide) (by decide) (by decide) e.2); have hb15 := hf.blk (blk_new w3 (.cells #[.int .i64 E, .int .u64 K, .bool Y] 57)) (fun e => trb_ty (blk_new w3 _) (by decide) (by decide) (by decide) (by decide) (by decide) e.2); clear x0 x1; have x0 : w4.cell? ⟨wr.heap.size, 0, none⟩ = some (.int .u8 (d : Nat)) := blk_cell hb12 0; obtain ⟨y0, y1, y2⟩ := cells3 hb15; have z0 := blk_frozen hb15 0; have HB12 := Lib.hid hb12; have HB15 := Lib.hid hb15; have HX4 := Lib.hid ht; have HRm := Lib.hid (R_ft (R_fr HRm.out ((Fr.refl (fun _ => False) w3).alloc (.cells #[.int .i64 E, .int .u64 K, .bool Y] 57)) (fun _ _ h => h)) hf); have HRl := Lib.hid (R_ft (R_fr HRl.out (HN3.out.alloc (.cells #[.int .i64 E, .int .u64 K, .bool Y] 57)) (fun _ _ h => h)) hf); have HF := Lib.hid ((HF.out.trans (FT.nw (HN3.out.alloc (.cells #[.int .i64 E, .int .u64 K, .bool Y] 57)))).trans hf); have hl15 := blk_lt hb15; have hl12 := blk_lt hb12; have ht4 := Nat.lt_of_lt_of_le hl15 (Nat.le_refl _); clear ht hf hb12 hb15)
              | (go_at_call 18; refine (HTF.out _ _ _ (R_fr HRm.out ((Fr.refl (fun _ => False) w4).alloc (.cells #[.int .i64 (E : Nat), .int .u64 (K : Nat), .bool Y] 57)) (fun _ _ h => h))).mono ?_; rintro e w5 ⟨rfl, hf⟩; have hb15 := hf.blk (blk_alloc HB15.out (.cells #[.int .i64 (E : Nat), .int .u64 (K : Nat), .bool Y] 57)) (fun h => h); have hb12 := hf.blk (blk_alloc HB12.out (.cells #[.int .i64 (E : Nat), .int .u64 (K : Nat), .bool Y] 57)) (fun h => h); have HB16 := Lib.hid (hf.blk (blk_new w4 (.cells #[.int .i64 (E : Nat), .int .u64 (K : Nat), .bool Y] 57)) (fun h => h)); clear x0 y0 y1 y2 z0; have x0 : w5.cell? ⟨wr.heap.size, 0, none⟩ = some (.int .u8 (d : Nat)) := blk_cell hb12 0; obtain ⟨y0, y1, y2⟩ := cells3 hb15; have z0 := blk_frozen hb15 0; have hl5 := Nat.lt_of_lt_of_le hl15 (Nat.le_trans (Nat.le_of_lt (by simp)) hf.size); have HF5 := Lib.hid (((Fr.refl (fun _ => False) w4).alloc (.cells #[.int .i64 (E : Nat), .int .u64 (K : Nat), .bool Y] 57)).trans hf); clear hf hb12 hb15))
            have HZ12 := Lib.hid ((((Fr.refl (fun _ => False) w4).alloc (.cells #[.int .i64 (E : Nat), .int .u64 (K : Nat), .bool Y] 57))).blk HB12.out (fun h => h)); have HZ15 := Lib.hid ((((Fr.refl (fun _ => False) w4).alloc (.cells #[.int .i64 (E : Nat), .int .u64 (K : Nat), .bool Y] 57))).blk HB15.out (fun h => h)); have HZ16 := Lib.hid (blk_new w4 (.cells #[.int .i64 (E : Nat), .int .u64 (K : Nat), .bool Y] 57)); have HXz := Lib.hid (HX4.out.nw ((Fr.refl (fun _ => False) w4).alloc (.cells #[.int .i64 (E : Nat), .int .u64 (K : Nat), .bool Y] 57))); have HRz := Lib.hid (R_fr HRm.out ((Fr.refl (fun _ => False) w4).alloc (.cells #[.int .i64 (E : Nat), .int .u64 (K : Nat), .bool Y] 57)) (fun _ _ h => h)); have HFz : Hid (FT w1.heap.size w2 (w4.alloc (.cells #[.int .i64 (E : Nat), .int .u64 (K : Nat), .bool Y] 57))) := Lib.hid (HF.out.trans (FT.nw (B := w1.heap.size) ((Fr.refl (fun _ => False) w4).alloc (.cells #[.int .i64 (E : Nat), .int .u64 (K : Nat), .bool Y] 57)))); obtain ⟨mt, cm, hmt⟩ := HXz.out.meter; have HMT := Lib.hid hmt; clear hmt; obtain ⟨wz, hwz⟩ : ∃ wz, wz = (w4.alloc (.cells #[.int .i64 (E : Nat), .int .u64 (K : Nat), .bool Y] 57)) := ⟨_, rfl⟩; rw [← hwz] at HZ12 HZ15 HZ16 HXz HRz HFz HMT cm ⊢; clear hwz x0 y0 y1 y2 z0 c0 c1; obtain ⟨y0, y1, y2⟩ := cells3 HZ15.out; obtain ⟨v0, v1, v2⟩ := cells3 HZ16.out; have x0 : wz.cell? ⟨wr.heap.size, 0, none⟩ = some (.int .u8 (d : Nat)) := blk_cell HZ12.out 0; have hne := fun W => ans_neq (E : Nat) (K : Nat) Y W; have HUE := Lib.hid (fun w' (h : Nw wz w') => tx_used w1.heap.size t lim m w' (HXz.out.nw h).tx); have HTE := Lib.hid (fun w' (h : Nw wz w') => tref_calls A2 c2 m w' (R_fr HRz.out h (fun _ _ h => h)) (by have := HML.out; omega) HMB.out); have HTA := Lib.hid (fun w' (h : Nw wz w') => mt_taken mt tk2 w' (HMT.out.fr h (fun h => h))); (rw [← HU.out] at HUE HTE; clear hul'); have hsq : decide ((sn : Int) < tk2) = false := decide_eq_false (by rw [HSN2.out]; omega); have hub1 : decide ((lim : Int) < (u : Int)) = false := decide_eq_false (by have := HUL.out; omega); have hub2 : decide (lim < u) = false := decide_eq_false (by have := HUL.out; omega)
            go_region_held3 (fun w' => w'.cell? ⟨w4.heap.size, 0, none⟩ = some (.int .i64 (E : Nat)) ∧ w'.cell? ⟨w4.heap.size, 1, none⟩ = some (.int .u64 (K : Nat)) ∧ w'.cell? ⟨w4.heap.size, 2, none⟩ = some (.bool Y) ∧ w'.cell? ⟨w3.heap.size, 0, none⟩ = some (.int .i64 (E : Nat)) ∧ w'.cell? ⟨w3.heap.size, 1, none⟩ = some (.int .u64 (K : Nat)) ∧ w'.cell? ⟨w3.heap.size, 2, none⟩ = some (.bool Y) ∧ w'.cell? ⟨wr.heap.size, 0, none⟩ = some (.int .u8 (d : Nat)) ∧ w'.cell? ⟨t, 0, none⟩ = some (.pointer (some ⟨mt, 0, none⟩)) ∧ Nw wz w')
              (first
                | exact ⟨v0, v1, v2, y0, y1, y2, x0, cm, (Fr.refl (fun _ => False) wz).drew⟩
                | (go_split_ands; exact ⟨hF.cell (by assumption) (fun h => h), hF.cell (by assumption) (fun h => h), hF.cell (by assumption) (fun h => h), hF.cell (by assumption) (fun h => h), hF.cell (by assumption) (fun h => h), hF.cell (by assumption) (fun h => h), hF.cell (by assumption) (fun h => h), hF.cell (by assumption) (fun h => h), Fr.trans (by assumption) hF⟩)
                | (go_split_ands; exact ⟨by assumption, by assumption, by assumption, by assumption, by assumption, by assumption, by assumption, by assumption, by assumption⟩))
              (first
                | (go_at_call 19; refine (HUE.out _ (by go_split_ands; assumption)).mono ?_; rintro e wa ⟨rfl, rfl⟩)
                | (go_at_call 18; refine (HTE.out _ (by go_split_ands; assumption)).mono ?_; rintro e wa ⟨rfl, hF⟩)
                | (go_at_call 35; refine (HTA.out _ (by go_split_ands; assumption)).mono ?_; rintro e wa ⟨rfl, hF⟩)
                | (go_at_call 36; refine (HST.out _).mono ?_; rintro e wa ⟨rfl, hF⟩))
            all_goals go_wp2
            all_goals go_roundw
            any_goals (show (_ : Nat) < _; simp only [intOf]; omega)
            all_goals (
              have hNz : Nw wz _ := (by go_split_ands; assumption)
              exact ⟨i + 1, m, A2, c2, tk2, by omega, by omega, by go_num, rfl, HMU, HMB, Lib.hid (by have := HML.out; omega), Lib.hid (by rw [← HU.out]; exact HUL.out), Lib.hid (R_fr HRz.out hNz (fun _ _ h => h)), Lib.hid ⟨q1, by have h1 := HSN.out; have h2 := HSN2.out; omega⟩, Lib.hid (HXz.out.nw hNz), Lib.hid (HFz.out.trans (FT.nw hNz))⟩)
      · have h60' : (60 : Int) ≤ (i : Int) := by omega
        have hlt' : (i : Int) < (acts.length : Int) := by omega
        have hl60 : l'.length ≤ 60 := by have := HLL.out; omega
        have HTr := Lib.hid (HT.out.step HNr.out)
        have HXT := Lib.hid HX.out.tx
        obtain ⟨kk, hkk⟩ : ∃ kk, kk = 1 + s5 := ⟨_, rfl⟩
        have hk5 : kk ≤ 5 ∧ 1 ≤ kk := by omega
        have he1 : (kk : Int) = 1 + (s5 : Int) := by omega
        have hsm := fun w' (h : TX w' w1.heap.size t l' lim) (hf : FT w1.heap.size wr w') (hR : Kd.R (Kd.int .u64) 31 w' 0 (fun _ => True) (.slice A l'.length c) (keysI l')) => same_calls w1.heap.size t lim l' l' _ w' h (HTr.out.ft hf HG1.out) hR (by omega)
        rw [decide_eq_true (show l'.take 100000 = l' ∧ l'.length = l'.length from ⟨List.take_of_length_le (by omega), rfl⟩)] at hsm
        have HSM := Lib.hid hsm
        have hal := fun w' (h : TX w' w1.heap.size t l' lim) (hf : FT w1.heap.size wr w') => tx_all w1.heap.size t lim l' w' h (HTr.out.ft hf HG1.out) kk hk5.2 (by omega)
        rw [he1] at hal
        obtain ⟨lk, hlk⟩ : ∃ lk, lk = l'.take kk := ⟨_, rfl⟩
        rw [← hlk] at hal
        have hlkl : lk.length = min kk l'.length := by rw [hlk, List.length_take]
        have hsk : ∀ w' A1 c1, Kd.C (Kd.int .u64) w' A1 lk.length (keysI lk) → lk.length ≤ c1 → Kd.R (Kd.int .u64) 31 w' 0 (fun _ => True) (.slice A l'.length c) (keysI l') → Calls Tryd.prog 37 #[.slice A1 lk.length c1, .slice A lk.length c] w' fun e w'' => e = .returned (.bool true) ∧ Nw w' w'' := by
          intro w' A1 c1 h1 h2 h3
          obtain ⟨hC, hc⟩ := R_c h3
          have hC2 : Kd.C (Kd.int .u64) w' A lk.length (keysI lk) := by
            have hC' : Kd.C (Kd.int .u64) w' A (keysI l').length (keysI l') := by rw [keysI_len]; exact hC
            have := Kd.C_take (m := min kk l'.length) hC' (by rw [keysI_len]; omega)
            have e2 : (keysI l').take (min kk l'.length) = keysI lk := by
              rw [keysI_take, hlk]
              congr 1
              rcases Nat.le_total kk l'.length with h | h
              · rw [Nat.min_eq_left h]
              · rw [Nat.min_eq_right h, List.take_of_length_le (Nat.le_refl _), List.take_of_length_le h]
            rw [e2, keysI_len] at this
            exact this
          have := samek_calls A1 A c1 c lk lk w' h1 h2 hC2 (by omega) (by omega)
          rw [decide_eq_true rfl] at this
          exact this
        have HSK0 := Lib.hid hsk
        obtain ⟨hCl, hcl⟩ := R_c HRl.out
        obtain ⟨LK, hLK⟩ : ∃ LK, LK = lk.length := ⟨_, rfl⟩
        have hcutg : ∀ z : Int, z = (LK : Nat) → ∀ W : World, (Instr.slice 22 (.slice A l'.length c) none (some (.int .i64 z)) none).run Tryd.prog W = .ok (.slice A LK c) W := by
          intro z hz
          rw [hz]
          obtain ⟨i0, hi0, _, hsz, _⟩ := info_parts info_u64
          have := cut_to (P := Tryd.prog) 22 31 .i64 Tryd.underlying22 hi0 A l'.length c (LK : Nat) (by omega) (by omega) hcl
          simpa using this
        have HSK : Hid (∀ w' A1 c1, Kd.C (Kd.int .u64) w' A1 LK (keysI lk) → LK ≤ c1 → Kd.R (Kd.int .u64) 31 w' 0 (fun _ => True) (.slice A l'.length c) (keysI l') → Calls Tryd.prog 37 #[.slice A1 LK c1, .slice A LK c] w' fun e w'' => e = .returned (.bool true) ∧ Nw w' w'') := Lib.hid (by rw [hLK]; exact hsk)
        rw [← hLK] at hal
        have HAL := Lib.hid hal
        have HLI := Lib.hid (fun w' (h : TX w' w1.heap.size t l' lim) => tx_limit w1.heap.size t lim l' w' h)
        have HMN : Hid (LK = min kk l'.length ∧ (kk : Int) = 1 + (s5 : Int)) := Lib.hid ⟨by rw [hLK, hlkl], he1⟩
        have HCG := Lib.hid hcutg
        clear hcutg
        clear hsm hal hsk hCl hcl hLK hlkl hlk he1 hkk hk5 HSK0
        by_cases hks : 1 + (s5 : Int) < (l'.length : Int)
        · have hcut := HCG.out (1 + (s5 : Int)) (by have h1 := HMN.out.1; have h2 := HMN.out.2; omega)
          go_wp2_with fail
          go_region_held3 (fun w' => TX w' w1.heap.size t l' lim ∧ Kd.R (Kd.int .u64) 31 w' 0 (fun _ => True) (.slice A l'.length c) (keysI l') ∧ FT w1.heap.size wr w')
            (first
              | exact ⟨HXT.out.nw (Fr.refl _ wr).drew, R_fr HRl.out (Fr.refl (fun _ => False) wr).drew (fun _ _ h => h), FT.nw (Fr.refl _ wr).drew⟩
              | exact ⟨HXT.out.nw ((Fr.refl _ wr).alloc _).drew, R_fr HRl.out ((Fr.refl (fun _ => False) wr).alloc _).drew (fun _ _ h => h), FT.nw ((Fr.refl _ wr).alloc _).drew⟩
              | (go_split_ands; exact ⟨hX, R_ft (by assumption) hF, FT.trans (by assumption) hF⟩)
              | (go_split_ands; exact ⟨TX.nw (by assumption) hN, R_fr (by assumption) hN (fun _ _ h => h), FT.trans (by assumption) (FT.nw hN)⟩)
              | (go_split_ands; exact ⟨by assumption, by assumption, by assumption⟩))
            (first
              | (go_at_call 16; refine (HSM.out _ (by go_split_ands; assumption) (by go_split_ands; assumption) (by go_split_ands; assumption)).mono ?_; rintro e wa ⟨rfl, hX, hF⟩)
              | (go_at_call 32; refine (HAL.out _ (by go_split_ands; assumption) (by go_split_ands; assumption)).mono ?_; rintro e wa ⟨A1, cc1, rfl, hC1, hcc1, hX, hF⟩; have HC1 := Lib.hid hC1; have HCC1 := Lib.hid hcc1; clear hC1 hcc1)
              | (go_at_call 37; refine (HSK.out _ _ _ HC1.out HCC1.out (by go_split_ands; assumption)).mono ?_; rintro e wa ⟨rfl, hN⟩)
              | (go_at_call 31; refine (HLI.out _ (by go_split_ands; assumption)).mono ?_; rintro e wa ⟨rfl, rfl⟩))
          all_goals go_wp2
          all_goals go_ret
          all_goals exact ⟨rfl, HNr.out.trans_of (by go_split_ands; assumption : FT w1.heap.size wr _) (fun q hq e => by have := e.1; omega)⟩
        · have hcut := HCG.out (l'.length : Int) (by have h1 := HMN.out.1; have h2 := HMN.out.2; omega)
          have hksF := eq_false hks
          clear hks
          go_wp2_with fail
          go_region_held3 (fun w' => TX w' w1.heap.size t l' lim ∧ Kd.R (Kd.int .u64) 31 w' 0 (fun _ => True) (.slice A l'.length c) (keysI l') ∧ FT w1.heap.size wr w')
            (first
              | exact ⟨HXT.out.nw (Fr.refl _ wr).drew, R_fr HRl.out (Fr.refl (fun _ => False) wr).drew (fun _ _ h => h), FT.nw (Fr.refl _ wr).drew⟩
              | exact ⟨HXT.out.nw ((Fr.refl _ wr).alloc _).drew, R_fr HRl.out ((Fr.refl (fun _ => False) wr).alloc _).drew (fun _ _ h => h), FT.nw ((Fr.refl _ wr).alloc _).drew⟩
              | (go_split_ands; exact ⟨hX, R_ft (by assumption) hF, FT.trans (by assumption) hF⟩)
              | (go_split_ands; exact ⟨TX.nw (by assumption) hN, R_fr (by assumption) hN (fun _ _ h => h), FT.trans (by assumption) (FT.nw hN)⟩)
              | (go_split_ands; exact ⟨by assumption, by assumption, by assumption⟩))
            (first
              | (go_at_call 16; refine (HSM.out _ (by go_split_ands; assumption) (by go_split_ands; assumption) (by go_split_ands; assumption)).mono ?_; rintro e wa ⟨rfl, hX, hF⟩)
              | (go_at_call 32; refine (HAL.out _ (by go_split_ands; assumption) (by go_split_ands; assumption)).mono ?_; rintro e wa ⟨A1, cc1, rfl, hC1, hcc1, hX, hF⟩; have HC1 := Lib.hid hC1; have HCC1 := Lib.hid hcc1; clear hC1 hcc1)
              | (go_at_call 37; refine (HSK.out _ _ _ HC1.out HCC1.out (by go_split_ands; assumption)).mono ?_; rintro e wa ⟨rfl, hN⟩)
              | (go_at_call 31; refine (HLI.out _ (by go_split_ands; assumption)).mono ?_; rintro e wa ⟨rfl, rfl⟩))
          all_goals go_wp2
          all_goals go_ret
          all_goals exact ⟨rfl, HNr.out.trans_of (by go_split_ands; assumption : FT w1.heap.size wr _) (fun q hq e => by have := e.1; omega)⟩
    · have hlt' : ¬ (i : Int) < (acts.length : Int) := by omega
      have hl60 : l'.length ≤ 60 := by have := HLL.out; omega
      have HTr := Lib.hid (HT.out.step HNr.out)
      have HXT := Lib.hid HX.out.tx
      obtain ⟨kk, hkk⟩ : ∃ kk, kk = 1 + s5 := ⟨_, rfl⟩
      have hk5 : kk ≤ 5 ∧ 1 ≤ kk := by omega
      have he1 : (kk : Int) = 1 + (s5 : Int) := by omega
      have hsm := fun w' (h : TX w' w1.heap.size t l' lim) (hf : FT w1.heap.size wr w') (hR : Kd.R (Kd.int .u64) 31 w' 0 (fun _ => True) (.slice A l'.length c) (keysI l')) => same_calls w1.heap.size t lim l' l' _ w' h (HTr.out.ft hf HG1.out) hR (by omega)
      rw [decide_eq_true (show l'.take 100000 = l' ∧ l'.length = l'.length from ⟨List.take_of_length_le (by omega), rfl⟩)] at hsm
      have HSM := Lib.hid hsm
      have hal := fun w' (h : TX w' w1.heap.size t l' lim) (hf : FT w1.heap.size wr w') => tx_all w1.heap.size t lim l' w' h (HTr.out.ft hf HG1.out) kk hk5.2 (by omega)
      rw [he1] at hal
      obtain ⟨lk, hlk⟩ : ∃ lk, lk = l'.take kk := ⟨_, rfl⟩
      rw [← hlk] at hal
      have hlkl : lk.length = min kk l'.length := by rw [hlk, List.length_take]
      have hsk : ∀ w' A1 c1, Kd.C (Kd.int .u64) w' A1 lk.length (keysI lk) → lk.length ≤ c1 → Kd.R (Kd.int .u64) 31 w' 0 (fun _ => True) (.slice A l'.length c) (keysI l') → Calls Tryd.prog 37 #[.slice A1 lk.length c1, .slice A lk.length c] w' fun e w'' => e = .returned (.bool true) ∧ Nw w' w'' := by
        intro w' A1 c1 h1 h2 h3
        obtain ⟨hC, hc⟩ := R_c h3
        have hC2 : Kd.C (Kd.int .u64) w' A lk.length (keysI lk) := by
          have hC' : Kd.C (Kd.int .u64) w' A (keysI l').length (keysI l') := by rw [keysI_len]; exact hC
          have := Kd.C_take (m := min kk l'.length) hC' (by rw [keysI_len]; omega)
          have e2 : (keysI l').take (min kk l'.length) = keysI lk := by
            rw [keysI_take, hlk]
            congr 1
            rcases Nat.le_total kk l'.length with h | h
            · rw [Nat.min_eq_left h]
            · rw [Nat.min_eq_right h, List.take_of_length_le (Nat.le_refl _), List.take_of_length_le h]
          rw [e2, keysI_len] at this
          exact this
        have := samek_calls A1 A c1 c lk lk w' h1 h2 hC2 (by omega) (by omega)
        rw [decide_eq_true rfl] at this
        exact this
      have HSK0 := Lib.hid hsk
      obtain ⟨hCl, hcl⟩ := R_c HRl.out
      obtain ⟨LK, hLK⟩ : ∃ LK, LK = lk.length := ⟨_, rfl⟩
      have hcutg : ∀ z : Int, z = (LK : Nat) → ∀ W : World, (Instr.slice 22 (.slice A l'.length c) none (some (.int .i64 z)) none).run Tryd.prog W = .ok (.slice A LK c) W := by
        intro z hz
        rw [hz]
        obtain ⟨i0, hi0, _, hsz, _⟩ := info_parts info_u64
        have := cut_to (P := Tryd.prog) 22 31 .i64 Tryd.underlying22 hi0 A l'.length c (LK : Nat) (by omega) (by omega) hcl
        simpa using this
      have HSK : Hid (∀ w' A1 c1, Kd.C (Kd.int .u64) w' A1 LK (keysI lk) → LK ≤ c1 → Kd.R (Kd.int .u64) 31 w' 0 (fun _ => True) (.slice A l'.length c) (keysI l') → Calls Tryd.prog 37 #[.slice A1 LK c1, .slice A LK c] w' fun e w'' => e = .returned (.bool true) ∧ Nw w' w'') := Lib.hid (by rw [hLK]; exact hsk)
      rw [← hLK] at hal
      have HAL := Lib.hid hal
      have HLI := Lib.hid (fun w' (h : TX w' w1.heap.size t l' lim) => tx_limit w1.heap.size t lim l' w' h)
      have HMN : Hid (LK = min kk l'.length ∧ (kk : Int) = 1 + (s5 : Int)) := Lib.hid ⟨by rw [hLK, hlkl], he1⟩
      have HCG := Lib.hid hcutg
      clear hcutg
      clear hsm hal hsk hCl hcl hLK hlkl hlk he1 hkk hk5 HSK0
      by_cases hks : 1 + (s5 : Int) < (l'.length : Int)
      · have hcut := HCG.out (1 + (s5 : Int)) (by have h1 := HMN.out.1; have h2 := HMN.out.2; omega)
        go_wp2_with fail
        go_region_held3 (fun w' => TX w' w1.heap.size t l' lim ∧ Kd.R (Kd.int .u64) 31 w' 0 (fun _ => True) (.slice A l'.length c) (keysI l') ∧ FT w1.heap.size wr w')
          (first
            | exact ⟨HXT.out.nw (Fr.refl _ wr).drew, R_fr HRl.out (Fr.refl (fun _ => False) wr).drew (fun _ _ h => h), FT.nw (Fr.refl _ wr).drew⟩
            | exact ⟨HXT.out.nw ((Fr.refl _ wr).alloc _).drew, R_fr HRl.out ((Fr.refl (fun _ => False) wr).alloc _).drew (fun _ _ h => h), FT.nw ((Fr.refl _ wr).alloc _).drew⟩
            | (go_split_ands; exact ⟨hX, R_ft (by assumption) hF, FT.trans (by assumption) hF⟩)
            | (go_split_ands; exact ⟨TX.nw (by assumption) hN, R_fr (by assumption) hN (fun _ _ h => h), FT.trans (by assumption) (FT.nw hN)⟩)
            | (go_split_ands; exact ⟨by assumption, by assumption, by assumption⟩))
          (first
            | (go_at_call 16; refine (HSM.out _ (by go_split_ands; assumption) (by go_split_ands; assumption) (by go_split_ands; assumption)).mono ?_; rintro e wa ⟨rfl, hX, hF⟩)
            | (go_at_call 32; refine (HAL.out _ (by go_split_ands; assumption) (by go_split_ands; assumption)).mono ?_; rintro e wa ⟨A1, cc1, rfl, hC1, hcc1, hX, hF⟩; have HC1 := Lib.hid hC1; have HCC1 := Lib.hid hcc1; clear hC1 hcc1)
            | (go_at_call 37; refine (HSK.out _ _ _ HC1.out HCC1.out (by go_split_ands; assumption)).mono ?_; rintro e wa ⟨rfl, hN⟩)
            | (go_at_call 31; refine (HLI.out _ (by go_split_ands; assumption)).mono ?_; rintro e wa ⟨rfl, rfl⟩))
        all_goals go_wp2
        all_goals go_ret
        all_goals exact ⟨rfl, HNr.out.trans_of (by go_split_ands; assumption : FT w1.heap.size wr _) (fun q hq e => by have := e.1; omega)⟩
      · have hcut := HCG.out (l'.length : Int) (by have h1 := HMN.out.1; have h2 := HMN.out.2; omega)
        have hksF := eq_false hks
        clear hks
        go_wp2_with fail
        go_region_held3 (fun w' => TX w' w1.heap.size t l' lim ∧ Kd.R (Kd.int .u64) 31 w' 0 (fun _ => True) (.slice A l'.length c) (keysI l') ∧ FT w1.heap.size wr w')
          (first
            | exact ⟨HXT.out.nw (Fr.refl _ wr).drew, R_fr HRl.out (Fr.refl (fun _ => False) wr).drew (fun _ _ h => h), FT.nw (Fr.refl _ wr).drew⟩
            | exact ⟨HXT.out.nw ((Fr.refl _ wr).alloc _).drew, R_fr HRl.out ((Fr.refl (fun _ => False) wr).alloc _).drew (fun _ _ h => h), FT.nw ((Fr.refl _ wr).alloc _).drew⟩
            | (go_split_ands; exact ⟨hX, R_ft (by assumption) hF, FT.trans (by assumption) hF⟩)
            | (go_split_ands; exact ⟨TX.nw (by assumption) hN, R_fr (by assumption) hN (fun _ _ h => h), FT.trans (by assumption) (FT.nw hN)⟩)
            | (go_split_ands; exact ⟨by assumption, by assumption, by assumption⟩))
          (first
            | (go_at_call 16; refine (HSM.out _ (by go_split_ands; assumption) (by go_split_ands; assumption) (by go_split_ands; assumption)).mono ?_; rintro e wa ⟨rfl, hX, hF⟩)
            | (go_at_call 32; refine (HAL.out _ (by go_split_ands; assumption) (by go_split_ands; assumption)).mono ?_; rintro e wa ⟨A1, cc1, rfl, hC1, hcc1, hX, hF⟩; have HC1 := Lib.hid hC1; have HCC1 := Lib.hid hcc1; clear hC1 hcc1)
            | (go_at_call 37; refine (HSK.out _ _ _ HC1.out HCC1.out (by go_split_ands; assumption)).mono ?_; rintro e wa ⟨rfl, hN⟩)
            | (go_at_call 31; refine (HLI.out _ (by go_split_ands; assumption)).mono ?_; rintro e wa ⟨rfl, rfl⟩))
        all_goals go_wp2
        all_goals go_ret
        all_goals exact ⟨rfl, HNr.out.trans_of (by go_split_ands; assumption : FT w1.heap.size wr _) (fun q hq e => by have := e.1; omega)⟩
/-- The same over the row's own words. -/
theorem plays_row (x0 : Int) (a : Option Addr) (cap : Nat) (l : List Act2) (x2 : Int) (w : World) (wf0 : (Lit.int .u16 x0).wf = true) (wf2 : (Lit.int .u8 x2).wf = true) (hA : AC2 w a l) (hl : l.length ≤ 140737488351232) (hT : Tb w) :
    Calls Tryd.prog 8 #[.int .u16 x0, .slice a l.length cap, .int .u8 x2] w fun e w' => e = .returned (.bool true) ∧ Nw w w' := by
  have h0 := u16_bd wf0
  have h2 := u8_bd wf2
  have := plays_calls x0.toNat a cap l x2.toNat w (by omega) hA hl hT
  rw [show ((x0.toNat : Nat) : Int) = x0 by omega, show ((x2.toNat : Nat) : Int) = x2 by omega] at this
  exact this
end Go.Proofs.YtnhdcefoigmjpaaDoor

