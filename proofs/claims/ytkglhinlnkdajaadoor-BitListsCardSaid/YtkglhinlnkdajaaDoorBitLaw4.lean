/-
  The walk of the law BitLists.
-/
import Derived.Test.YtkglhinlnkdajaaDoorBitLaw2
import Derived.Test.YtkglhinlnkdajaaDoorBitPure3
namespace Go.Proofs.YtkglhinlnkdajaaDoor
open Go.RowKit Go.Proofs.YtkglhinlnkdajaaDoorW.PrintWords Go.Proofs.YtkglhinlnkdajaaDoorW.PrintMore
attribute [local go_sem] max2_int min2_int max_two min_two
set_option linter.unusedVariables false
set_option linter.unusedSimpArgs false

/-- The two lists that came in, cut; the table; nothing old has turned. -/
structure BL (w W : World) (A B : Option Addr) (l ws : List Int) : Prop where
  q : Q w W
  c1 : Kd.C (Kd.int .i64) W A l.length l
  c2 : Kd.C (Kd.int .u64) W B ws.length ws
theorem BL.step {w W W1 : World} {A B : Option Addr} {l ws : List Int} (h : BL w W A B l ws) (hf : Nw W W1) : BL w W1 A B l ws := ⟨h.q.step hf, C_nw h.c1 hf, C_nw h.c2 hf⟩
/-- Behind the start of the second part: rows of the call's own, from base on, may turn. -/
theorem BL.below {w W W1 : World} {A B : Option Addr} {l ws : List Int} (h : BL w W A B l ws) (hf : Below W.heap.size W W1) : BL w W1 A B l ws := h.step (Fr.of_below hf)




/-- The counting loop's step and the third part stand in theorems of their own. -/
theorem one_step (ws : List Int) (k : Nat) (hk : k < 64) : bitsFrom (anyN ws) (k + 1) 0 = bitsFrom (anyN ws) k 0 ++ if 0 < hasN ws k then [(k : Int)] else [] := by
  rw [listTo_snoc, anyN_tb]
  by_cases h : 0 < hasN ws k <;> simp [h]
theorem all_step (ws : List Int) (k : Nat) (hk : k < 64) : bitsFrom (allN ws) (k + 1) 0 = bitsFrom (allN ws) k 0 ++ if hasN ws k = ws.length then [(k : Int)] else [] := by
  rw [listTo_snoc, allN_tb _ _ hk]
  by_cases h : hasN ws k = ws.length <;> simp [h]

set_option maxHeartbeats 4000000 in
set_option maxRecDepth 100000 in
theorem lists_calls (A0 B0 : Option Addr) (c0 d0 : Nat) (l0 m0 : List Int) (w : World) (hr : Kd.C (Kd.int .i64) w A0 l0.length l0) (hn : l0.length ≤ 140737488351232)
    (hr2 : Kd.C (Kd.int .u64) w B0 m0.length m0) (hn2 : m0.length ≤ 140737488351232) (hb2 : ∀ a, a ∈ m0 → 0 ≤ a ∧ a ≤ 18446744073709551615) (hT : Tb w) :
    Calls Tryd.prog 8 #[.slice A0 l0.length c0, .slice B0 m0.length d0] w fun e w' => e = .returned (.bool true) ∧ Nw w w' := by
  have HT := Lib.hid hT
  have HR := Lib.hid hr
  have HR2 := Lib.hid hr2
  clear hT hr hr2
  obtain ⟨l, hl⟩ : ∃ l, l = l0.take 100 := ⟨_, rfl⟩
  obtain ⟨ws, hws⟩ : ∃ l, l = m0.take 20 := ⟨_, rfl⟩
  have hl1 : l.length ≤ 100 := by rw [hl]; exact List.length_take_le _ _
  have hw1 : ws.length ≤ 20 := by rw [hws]; exact List.length_take_le _ _
  have HBD := Lib.hid (fun a ha => hb2 a (List.mem_of_mem_take (by rw [← hws]; exact ha)) : ∀ a, a ∈ ws → 0 ≤ a ∧ a ≤ 18446744073709551615)
  have HI := Lib.hid (fun W h => ints_calls A0 c0 l0 100 W h hn (by decide))
  have HW := Lib.hid (fun W h => words_calls B0 d0 m0 20 W h hn2 (by decide))
  rw [← hl] at HI
  rw [← hws] at HW
  clear hl hws hb2
  go_enter Tryd.func8, Tryd.ntmps8
  go_wp2_with (go_at_call 10; refine (bawake_calls _ HT.out).mono ?_; rintro e w1 ⟨rfl, hf⟩; have HQ : Hid (Q w w1) := Lib.hid ⟨HT.out.step hf, hf⟩; clear hf HT)
  refine (HI.out _ (C_nw HR.out HQ.out.2)).mono ?_
  rintro e w2 ⟨v, rfl, ho, hb⟩
  obtain ⟨A, c, rfl, hc, hC⟩ := Kd.R_reads ho
  have HC1 := Lib.hid hC
  have HQ2 := Lib.hid (HQ.out.step (Fr.of_below hb))
  clear ho hb hC HQ
  go_wp2_with (fail)
  refine (HW.out _ (C_nw HR2.out HQ2.out.2)).mono ?_
  rintro e w3 ⟨v, rfl, ho, hb⟩
  obtain ⟨B, d, rfl, hd, hC⟩ := Kd.R_reads ho
  have HB := Lib.hid (BL.mk (HQ2.out.step (Fr.of_below hb)) (C_nw HC1.out (Fr.of_below hb)) hC)
  clear ho hb hC HQ2 HC1 HR HR2 HI HW
  go_wp2_with (fail)
  go_loopw [5, 22] (fun t i wr => ∃ (k : Nat) (T : Option Addr) (c2 : Nat) (th : List Int), k ≤ l.length ∧ i = .int .i64 k ∧ t = .slice T th.length c2 ∧ th.length ≤ 64 ∧ Hid (th = thereL (l.take k)) ∧ Hid (Kd.C (Kd.int .i64) wr T th.length th) ∧ Hid (BL w wr A B l ws)) (fun _ i _ => l.length - (intOf i).toNat)
  case atStart => exact ⟨0, none, 0, [], Nat.zero_le _, rfl, rfl, Nat.zero_le _, Lib.hid rfl, Lib.hid (C_nil _ _), HB⟩
  case round =>
    obtain ⟨k, T, c2, th, hk, rfl, rfl, hth, HH, HTC, HB⟩ := hrel
    by_cases hlt : k < l.length
    · obtain ⟨ad, hA, hcell⟩ := at_nat HB.out.c1 hlt
      cases hA
      have HD := Lib.hid (List.take_succ_eq_append_getElem hlt)
      obtain ⟨x, hx⟩ : ∃ x, x = l[k] := ⟨_, rfl⟩
      rw [← hx] at hcell HD
      clear hx
      by_cases h0 : 0 ≤ x
      · by_cases h1 : x < 64
        · have HS : Hid (thereL (l.take (k + 1)) = addL th x) := Lib.hid (by rw [HD.out, thereL_snoc, if_pos ⟨h0, h1⟩, ← HH.out])
          have hs1 := thereL_len (l.take (k + 1))
          have HA := Lib.hid (add_calls T c2 th x wr HTC.out (by omega))
          rw [HS.out] at hs1
          obtain ⟨th2, ht2⟩ : ∃ t, t = addL th x := ⟨_, rfl⟩
          rw [← ht2] at HS hs1 HA
          clear ht2
          go_wp2_with (go_at_call 30; refine HA.out.mono ?_; rintro e w4 ⟨v, rfl, ho, hb⟩; obtain ⟨T2, c3, rfl, hc3, hC⟩ := Kd.R_reads ho; have HB' := Lib.hid (HB.out.below hb); have HTC' := Lib.hid hC; clear ho hb hC HA HB)
          go_roundw
          case rel => exact ⟨k + 1, T2, c3, th2, by omega, by go_num, rfl, hs1, Lib.hid HS.out.symm, HTC', HB'⟩
          case measure => simp [intOf]; omega
        · have HS : Hid (thereL (l.take (k + 1)) = th) := Lib.hid (by rw [HD.out, thereL_snoc, if_neg (by omega), ← HH.out])
          go_wp2
          go_roundw
          case rel => exact ⟨k + 1, T, c2, th, by omega, by go_num, rfl, hth, Lib.hid HS.out.symm, HTC, HB⟩
          case measure => simp [intOf]; omega
      · have HS : Hid (thereL (l.take (k + 1)) = th) := Lib.hid (by rw [HD.out, thereL_snoc, if_neg (by omega), ← HH.out])
        go_wp2
        go_roundw
        case rel => exact ⟨k + 1, T, c2, th, by omega, by go_num, rfl, hth, Lib.hid HS.out.symm, HTC, HB⟩
        case measure => simp [intOf]; omega
    · have HTH : Hid (th = thereL l) := Lib.hid (by rw [HH.out, List.take_of_length_le (by omega)])
      clear HH
      go_wp2_with (fail)
      clear hlt hk
      obtain ⟨W0, hW0⟩ : ∃ W0 : World, W0 = wr := ⟨_, rfl⟩
      rw [← hW0] at HB HTC ⊢
      clear hW0
      go_loopw [8, 9, 10] (fun o a i w5 => ∃ (n : Nat) (xs ys : List Int), n ≤ 64 ∧ i = .int .i64 n ∧ xs.length ≤ n ∧ ys.length ≤ n ∧ Hid (xs = bitsFrom (anyN ws) n 0) ∧ Hid (ys = bitsFrom (allN ws) n 0) ∧ Hid (Kd.R (Kd.int .i64) 3 w5 W0.heap.size (fun _ => True) o xs) ∧ Hid (Kd.R (Kd.int .i64) 3 w5 W0.heap.size (fun _ => True) a ys) ∧ Hid (Sep o a) ∧ Hid (Below W0.heap.size W0 w5)) (fun _ _ i _ => 64 - (intOf i).toNat)
      case atStart => exact ⟨0, [], [], Nat.zero_le _, rfl, Nat.le_refl _, Nat.le_refl _, Lib.hid rfl, Lib.hid rfl, Lib.hid (Kd.R_nil _ _ _ _ _), Lib.hid (Kd.R_nil _ _ _ _ _), Lib.hid (Sep.nil _), Lib.hid (Below.refl _ _)⟩
      case round =>
        obtain ⟨n, xs, ys, hn64, rfl, hxl, hyl, HX, HY, HO, HA, HSp, HBe⟩ := hrel
        by_cases hn1 : n < 64
        · obtain ⟨W5, hW5⟩ : ∃ W5 : World, W5 = wr := ⟨_, rfl⟩
          rw [← hW5] at HO HA HBe ⊢
          clear hW5
          go_wp2_with (fail)
          have hn2' : (n : Int) < 64 := by omega
          rw [decide_eq_true hn2']
          clear hn2'
          go_loopw [11, 42] (fun c i w6 => ∃ (j : Nat), j ≤ ws.length ∧ c = .int .i64 (hasN (ws.take j) n) ∧ i = .int .i64 j ∧ hasN (ws.take j) n ≤ j ∧ Hid (Below W5.heap.size W5 w6)) (fun _ i _ => ws.length - (intOf i).toNat)
          case atStart => exact ⟨0, Nat.zero_le _, rfl, rfl, Nat.le_refl _, Lib.hid (Below.refl _ _)⟩
          case round =>
            obtain ⟨j, hj, rfl, rfl, hcj, HBi⟩ := hrel
            have HBT : Hid (Below W0.heap.size W0 wr) := Lib.hid (HBe.out.trans (HBi.out.mono HBe.out.size))
            have HB2 := Lib.hid (HB.out.below HBT.out)
            by_cases hjl : j < ws.length
            · obtain ⟨ad, hA, hcell⟩ := at_nat HB2.out.c2 hjl
              cases hA
              have hbd := HBD.out ws[j] (List.getElem_mem hjl)
              have HD := Lib.hid (List.take_succ_eq_append_getElem hjl)
              obtain ⟨x, hx, hx64⟩ : ∃ x : Nat, ws[j] = (x : Int) ∧ x < 18446744073709551616 := ⟨ws[j].toNat, by omega, by omega⟩
              rw [hx] at hcell HD
              clear hx hbd
              have HL := Lib.hid (list_calls x wr hx64)
              have HS : Hid (hasN (ws.take (j + 1)) n = hasN (ws.take j) n + if x.testBit n then 1 else 0) := Lib.hid (by rw [HD.out, hasN_snoc, Int.toNat_natCast])
              have HW := Lib.hid (has_word x n hn1)
              have hlx := listW_len x
              obtain ⟨lx, hlx2⟩ : ∃ t, t = listW x := ⟨_, rfl⟩
              rw [← hlx2] at HL HW hlx
              clear hlx2 hx64 HD
              go_wp2_with (fail)
              refine HL.out.mono ?_
              rintro e w7 ⟨v, rfl, ho, hb⟩
              obtain ⟨A2, c3, rfl, hc3, hC⟩ := Kd.R_reads ho
              have HC2 := Lib.hid hC
              have HBi2 : Hid (Below W5.heap.size W5 w7) := Lib.hid (HBi.out.trans (hb.mono HBi.out.size))
              clear ho hb hC HL HBi
              by_cases hbit : x.testBit n = true
              · rw [if_pos hbit] at HS
                have HH := Lib.hid (has_calls A2 c3 lx n w7 HC2.out (by omega))
                rw [HW.out, hbit] at HH
                clear HW hbit
                have hcs : hasN (ws.take (j + 1)) n ≤ j + 1 := by rw [HS.out]; omega
                go_wp2_with (fail)
                refine HH.out.mono ?_
                rintro e w8 ⟨rfl, rfl⟩
                clear HH
                go_wp2
                go_roundw
                case rel => exact ⟨j + 1, by omega, by rw [HS.out]; go_num, by go_num, hcs, HBi2⟩
                case measure => simp [intOf]; omega
              · rw [if_neg hbit] at HS
                have HH := Lib.hid (has_calls A2 c3 lx n w7 HC2.out (by omega))
                rw [HW.out, Bool.eq_false_iff.2 hbit] at HH
                clear HW hbit
                have hcs : hasN (ws.take (j + 1)) n ≤ j + 1 := by rw [HS.out]; omega
                go_wp2_with (fail)
                refine HH.out.mono ?_
                rintro e w8 ⟨rfl, rfl⟩
                clear HH
                go_wp2
                go_roundw
                case rel => exact ⟨j + 1, by omega, by rw [HS.out]; rfl, by go_num, hcs, HBi2⟩
                case measure => simp [intOf]; omega
            · have HE : Hid (hasN (ws.take j) n = hasN ws n) := Lib.hid (by rw [List.take_of_length_le (by omega)])
              have hle := hasN_le ws n
              obtain ⟨cn, hcn⟩ : ∃ cn, cn = hasN (ws.take j) n := ⟨_, rfl⟩
              rw [← hcn] at HE hcj ⊢
              have HE2 : Hid (hasN ws n = cn) := Lib.hid HE.out.symm
              clear hcn HE
              have HO2 := Lib.hid (Kd.R_below HO.out HBi.out)
              have HA2 := Lib.hid (Kd.R_below HA.out HBi.out)
              clear HO HA HBe HBi hcj
              by_cases hp : 0 < cn
              · have HX2 : Hid (bitsFrom (anyN ws) (n + 1) 0 = xs ++ [(n : Int)]) := Lib.hid (by rw [one_step ws n hn1, HE2.out, if_pos hp, ← HX.out])
                by_cases hq : cn = ws.length
                · have HY2 : Hid (bitsFrom (allN ws) (n + 1) 0 = ys ++ [(n : Int)]) := Lib.hid (by rw [all_step ws n hn1, HE2.out, if_pos hq, ← HY.out])
                  go_wp2_with (first | ((at_builtin; refine Kd.R_append (Kd.int .i64) (w0 := W0) W0.heap.size rfl (.tmp 55) (.tmp 57) 23 3 (.int .i64 0) 8 rfl Tryd.underlying23 info_i64 rfl (by decide) (by omega) _ xs (n : Int) [.int .i64 (n : Int)] (fun _ => True) (fun _ => False) rfl rfl rfl (fun _ hk => hk.elim) (fun _ _ => trivial) HO2.out HBT.out HBT.out.size (by (try simp only [List.length_append, List.length_cons, List.length_nil]); omega) ?_; intro v1 w1 ho hb hg hat); obtain ⟨hA3, hSp2⟩ := Sep.grown HSp.out HA2.out hg hat; have HO3 := Lib.hid ho; have HA3 := Lib.hid hA3; have HSp2 := Lib.hid hSp2; have HB3 := Lib.hid hb; clear ho hA3 hSp2 hb hg hat HO2 HA2 HSp HBT) | ((at_builtin; refine Kd.R_append (Kd.int .i64) (w0 := W0) W0.heap.size rfl (.tmp 63) (.tmp 65) 23 3 (.int .i64 0) 8 rfl Tryd.underlying23 info_i64 rfl (by decide) (by omega) _ ys (n : Int) [.int .i64 (n : Int)] (fun _ => True) (fun _ => False) rfl rfl rfl (fun _ hk => hk.elim) (fun _ _ => trivial) HA3.out HB3.out HB3.out.size (by (try simp only [List.length_append, List.length_cons, List.length_nil]); omega) ?_; intro v1 w1 ho hb hg hat); obtain ⟨hA3, hSp2⟩ := Sep.grown HSp2.out.symm HO3.out hg hat; have HO4 := Lib.hid hA3; have HA4 := Lib.hid ho; have HSp4 := Lib.hid hSp2.symm; have HB4 := Lib.hid hb; clear ho hA3 hSp2 hb hg hat HA3 HO3 HSp2 HB3))
                  go_roundw
                  case rel => exact ⟨n + 1, xs ++ [(n : Int)], ys ++ [(n : Int)], by omega, by go_num, by simp; omega, by simp; omega, Lib.hid HX2.out.symm, Lib.hid HY2.out.symm, HO4, HA4, HSp4, HB4⟩
                  case measure => simp [intOf]; omega
                · have HY2 : Hid (bitsFrom (allN ws) (n + 1) 0 = ys) := Lib.hid (by rw [all_step ws n hn1, HE2.out, if_neg hq, ← HY.out, List.append_nil])
                  go_wp2_with ((at_builtin; refine Kd.R_append (Kd.int .i64) (w0 := W0) W0.heap.size rfl (.tmp 55) (.tmp 57) 23 3 (.int .i64 0) 8 rfl Tryd.underlying23 info_i64 rfl (by decide) (by omega) _ xs (n : Int) [.int .i64 (n : Int)] (fun _ => True) (fun _ => False) rfl rfl rfl (fun _ hk => hk.elim) (fun _ _ => trivial) HO2.out HBT.out HBT.out.size (by (try simp only [List.length_append, List.length_cons, List.length_nil]); omega) ?_; intro v1 w1 ho hb hg hat); obtain ⟨hA3, hSp2⟩ := Sep.grown HSp.out HA2.out hg hat; have HO3 := Lib.hid ho; have HA3 := Lib.hid hA3; have HSp2 := Lib.hid hSp2; have HB3 := Lib.hid hb; clear ho hA3 hSp2 hb hg hat HO2 HA2 HSp HBT)
                  go_roundw
                  case rel => exact ⟨n + 1, xs ++ [(n : Int)], ys, by omega, by go_num, by simp; omega, by omega, Lib.hid HX2.out.symm, Lib.hid HY2.out.symm, HO3, HA3, HSp2, HB3⟩
                  case measure => simp [intOf]; omega
              · have HX2 : Hid (bitsFrom (anyN ws) (n + 1) 0 = xs) := Lib.hid (by rw [one_step ws n hn1, HE2.out, if_neg hp, ← HX.out, List.append_nil])
                by_cases hq : cn = ws.length
                · have HY2 : Hid (bitsFrom (allN ws) (n + 1) 0 = ys ++ [(n : Int)]) := Lib.hid (by rw [all_step ws n hn1, HE2.out, if_pos hq, ← HY.out])
                  go_wp2_with ((at_builtin; refine Kd.R_append (Kd.int .i64) (w0 := W0) W0.heap.size rfl (.tmp 63) (.tmp 65) 23 3 (.int .i64 0) 8 rfl Tryd.underlying23 info_i64 rfl (by decide) (by omega) _ ys (n : Int) [.int .i64 (n : Int)] (fun _ => True) (fun _ => False) rfl rfl rfl (fun _ hk => hk.elim) (fun _ _ => trivial) HA2.out HBT.out HBT.out.size (by (try simp only [List.length_append, List.length_cons, List.length_nil]); omega) ?_; intro v1 w1 ho hb hg hat); obtain ⟨hA3, hSp2⟩ := Sep.grown HSp.out.symm HO2.out hg hat; have HO4 := Lib.hid hA3; have HA4 := Lib.hid ho; have HSp4 := Lib.hid hSp2.symm; have HB4 := Lib.hid hb; clear ho hA3 hSp2 hb hg hat HA2 HO2 HSp HBT)
                  go_roundw
                  case rel => exact ⟨n + 1, xs, ys ++ [(n : Int)], by omega, by go_num, by omega, by simp; omega, Lib.hid HX2.out.symm, Lib.hid HY2.out.symm, HO4, HA4, HSp4, HB4⟩
                  case measure => simp [intOf]; omega
                · have HY2 : Hid (bitsFrom (allN ws) (n + 1) 0 = ys) := Lib.hid (by rw [all_step ws n hn1, HE2.out, if_neg hq, ← HY.out, List.append_nil])
                  go_wp2
                  go_roundw
                  case rel => exact ⟨n + 1, xs, ys, by omega, by go_num, by omega, by omega, Lib.hid HX2.out.symm, Lib.hid HY2.out.symm, HO2, HA2, HSp, HBT⟩
                  case measure => simp [intOf]; omega
        · have hn64' : n = 64 := by omega
          subst hn64'
          have HX2 : Hid (xs = listW (anyN ws)) := Lib.hid HX.out
          have HY2 : Hid (ys = listW (allN ws)) := Lib.hid HY.out
          clear HX HY hn1 hn64
          obtain ⟨A3, c3, rfl, hc3, hC3⟩ := Kd.R_reads HO.out
          obtain ⟨A4, c4, rfl, hc4, hC4⟩ := Kd.R_reads HA.out
          have HC3 := Lib.hid hC3
          have HC4 := Lib.hid hC4
          have HTC2 := Lib.hid (C_nw HTC.out (Fr.of_below HBe.out))
          have HB2 := Lib.hid (HB.out.below HBe.out)
          clear hC3 hC4 HO HA HSp HTC HB HBe
          have HM := Lib.hid (fun W h => make_calls A c l W h (by omega))
          have HN := Lib.hid (fun W h => any_calls B d ws W h (by omega) HBD.out)
          have HAl := Lib.hid (fun W h => all_calls B d ws W h (by omega) HBD.out)
          have HLM := Lib.hid (fun W => list_calls (makeN l) W (makeN_lt l))
          have HLN := Lib.hid (fun W => list_calls (anyN ws) W (anyN_lt ws HBD.out))
          have HLA := Lib.hid (fun W => list_calls (allN ws) W (allN_lt ws))
          rw [make_there, ← HTH.out] at HLM
          rw [← HX2.out] at HLN
          rw [← HY2.out] at HLA
          clear HTH HX2 HY2 HBD
          obtain ⟨mk, hmk⟩ : ∃ q, q = makeN l := ⟨_, rfl⟩
          obtain ⟨an, han⟩ : ∃ q, q = anyN ws := ⟨_, rfl⟩
          obtain ⟨al, hal⟩ : ∃ q, q = allN ws := ⟨_, rfl⟩
          rw [← hmk] at HM HLM
          rw [← han] at HN HLN
          rw [← hal] at HAl HLA
          clear hmk han hal
          go_wp2_with (fail)
          refine (HM.out _ HB2.out.c1).mono ?_
          rintro e w9 ⟨rfl, rfl⟩
          go_wp2_with (fail)
          refine (HLM.out _).mono ?_
          rintro e w9 ⟨v9, rfl, ho9, hb9⟩
          obtain ⟨A9, c9, rfl, hc9, hC9⟩ := Kd.R_reads ho9
          have HS9 := Lib.hid (fun dd => same_true _ _ c9 dd _ _ hC9 (C_nw HTC2.out (Fr.of_below hb9)) (by omega))
          replace HB2 := Lib.hid (HB2.out.step (Fr.of_below hb9))
          replace HC3 := Lib.hid (C_nw HC3.out (Fr.of_below hb9))
          replace HC4 := Lib.hid (C_nw HC4.out (Fr.of_below hb9))
          clear ho9 hb9 hC9
          go_wp2_with (fail)
          refine (HS9.out _).mono ?_
          rintro e w10 ⟨rfl, hf9⟩
          replace HB2 := Lib.hid (HB2.out.step hf9)
          replace HC3 := Lib.hid (C_nw HC3.out hf9)
          replace HC4 := Lib.hid (C_nw HC4.out hf9)
          clear hf9 HS9
          clear HTC2 HM HLM
          go_wp2_with (fail)
          refine (HN.out _ HB2.out.c2).mono ?_
          rintro e w9 ⟨rfl, rfl⟩
          go_wp2_with (fail)
          refine (HLN.out _).mono ?_
          rintro e w9 ⟨v9, rfl, ho9, hb9⟩
          obtain ⟨A9, c9, rfl, hc9, hC9⟩ := Kd.R_reads ho9
          have HS9 := Lib.hid (fun dd => same_true _ _ c9 dd _ _ hC9 (C_nw HC3.out (Fr.of_below hb9)) (by omega))
          replace HB2 := Lib.hid (HB2.out.step (Fr.of_below hb9))
          replace HC3 := Lib.hid (C_nw HC3.out (Fr.of_below hb9))
          replace HC4 := Lib.hid (C_nw HC4.out (Fr.of_below hb9))
          clear ho9 hb9 hC9
          go_wp2_with (fail)
          refine (HS9.out _).mono ?_
          rintro e w10 ⟨rfl, hf9⟩
          replace HB2 := Lib.hid (HB2.out.step hf9)
          replace HC3 := Lib.hid (C_nw HC3.out hf9)
          replace HC4 := Lib.hid (C_nw HC4.out hf9)
          clear hf9 HS9
          clear HN HLN HC3
          have HD1 := HC4
          have HD2 := HC4
          go_wp2_with (fail)
          refine (HAl.out _ HB2.out.c2).mono ?_
          rintro e w9 ⟨rfl, rfl⟩
          go_wp2_with (fail)
          refine (HLA.out _).mono ?_
          rintro e w9 ⟨v9, rfl, ho9, hb9⟩
          obtain ⟨A9, c9, rfl, hc9, hC9⟩ := Kd.R_reads ho9
          have HS9 := Lib.hid (fun dd => same_true _ _ c9 dd _ _ hC9 (C_nw HC4.out (Fr.of_below hb9)) (by omega))
          replace HB2 := Lib.hid (HB2.out.step (Fr.of_below hb9))
          replace HD1 := Lib.hid (C_nw HD1.out (Fr.of_below hb9))
          replace HD2 := Lib.hid (C_nw HD2.out (Fr.of_below hb9))
          clear ho9 hb9 hC9
          go_wp2_with (fail)
          refine (HS9.out _).mono ?_
          rintro e w10 ⟨rfl, hf9⟩
          replace HB2 := Lib.hid (HB2.out.step hf9)
          replace HD1 := Lib.hid (C_nw HD1.out hf9)
          replace HD2 := Lib.hid (C_nw HD2.out hf9)
          clear hf9 HS9
          go_wp2
          go_ret
          exact ⟨rfl, HB2.out.q.2⟩
end Go.Proofs.YtkglhinlnkdajaaDoor
