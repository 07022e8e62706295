/-
  What the kit's print wrote of the reference's functions (chosen sections of printed modules).
-/
import Derived.Test.YtnhdcefoigmjpaaDoorTrPrint
namespace Go.Proofs.YtnhdcefoigmjpaaDoor.PTrieWalks
open Go.RowKit Go.Proofs.YtnhdcefoigmjpaaDoorW.PrintWords Go.Proofs.YtnhdcefoigmjpaaDoorW.PrintLast Go.Proofs.YtnhdcefoigmjpaaDoorW.PrintMore
attribute [local go_sem] max2_int min2_int max_two min_two max_three min_three max_four min_four   -- for this text's walks alone
set_option linter.unusedVariables false
set_option linter.unusedSimpArgs false

/-! ### stepstoneref11_Kinds: function 46 -/
def stepstoneref11_Kinds.l0 : Nat → List Int → Int → Int → List Int → Int → Int → Option (Int)
  | 0, _, _, _, _, _, _ => none
  | k + 1, x0, x1, x5, x8, x9, x10 => if x10 < x9 then (if 0 ≤ x10 then (if x10 < (x8.length : Int) then (if x10 = 0 then (stepstoneref11_Kinds.l0 k x0 x1 (wrap64 (x5 + 1)) x8 x9 (wrap64 (x10 + 1))) else (if x1 > 0 then (if 0 ≤ (wrap64 (64 - x1)) then (if 0 ≤ (wrap64 (x10 - 1)) then (if (wrap64 (x10 - 1)) < (x0.length : Int) then (if (shr .u64 (rd x8 x10) (wrap64 (64 - x1))) = (shr .u64 (rd x0 (wrap64 (x10 - 1))) (wrap64 (64 - x1))) then (stepstoneref11_Kinds.l0 k x0 x1 x5 x8 x9 (wrap64 (x10 + 1))) else (stepstoneref11_Kinds.l0 k x0 x1 (wrap64 (x5 + 1)) x8 x9 (wrap64 (x10 + 1)))) else (none)) else (none)) else (none)) else (stepstoneref11_Kinds.l0 k x0 x1 x5 x8 x9 (wrap64 (x10 + 1))))) else (none)) else (none)) else (some x5)
def stepstoneref11_Kinds.f (k : Nat) (l0 : List Int) (a1 : Int) : Option (Int) := stepstoneref11_Kinds.l0 k l0 a1 0 l0 (l0.length : Int) 0
theorem stepstoneref11_Kinds.mono_l : ∀ k, (∀ y0 y1 y2 y3 y4 y5, LeO (stepstoneref11_Kinds.l0 k y0 y1 y2 y3 y4 y5) (stepstoneref11_Kinds.l0 (k + 1) y0 y1 y2 y3 y4 y5))
  | 0 => fun _ _ _ _ _ _ r h => by simp [stepstoneref11_Kinds.l0] at h
  | k + 1 => by
    have ih0 := stepstoneref11_Kinds.mono_l k
    · intro y0 y1 y2 y3 y4 y5
      unfold stepstoneref11_Kinds.l0
      repeat' first
      | (with_reducible exact ih0 _ _ _ _ _ _)
      | (with_reducible exact LeO.refl _)
      | (with_reducible exact LeO.none _)
      | (with_reducible refine LeO.ite ?_ ?_)
      | (with_reducible refine LeO.bind ?_ (fun _ => ?_))
      | exact ih0 _ _ _ _ _ _
      | exact LeO.none _
      | refine LeO.ite ?_ ?_
      | refine LeO.bind ?_ (fun _ => ?_)
theorem stepstoneref11_Kinds.mono : ∀ a0 a1 k, LeO (stepstoneref11_Kinds.f k a0 a1) (stepstoneref11_Kinds.f (k + 1) a0 a1) := by
  intro a0 a1 k
  have ih0 := stepstoneref11_Kinds.mono_l k
  unfold stepstoneref11_Kinds.f
  repeat' first
      | (with_reducible exact ih0 _ _ _ _ _ _)
      | (with_reducible exact LeO.refl _)
      | (with_reducible exact LeO.none _)
      | (with_reducible refine LeO.ite ?_ ?_)
      | (with_reducible refine LeO.bind ?_ (fun _ => ?_))
      | exact ih0 _ _ _ _ _ _
      | exact LeO.none _
      | refine LeO.ite ?_ ?_
      | refine LeO.bind ?_ (fun _ => ?_)
set_option maxHeartbeats 8000000 in
set_option maxRecDepth 100000 in
theorem stepstoneref11_Kinds.calls (k : Nat) (A0 : Option Addr) (c0 : Nat) (l0 : List Int) (a1 : Int) (r : Int) (w : World) (hr0 : Kd.C (Kd.int .u64) w A0 l0.length l0) (hc0 : l0.length ≤ c0) (h : stepstoneref11_Kinds.f k l0 a1 = some r) :
    Calls Tryd.prog 46 #[.slice A0 l0.length c0, .int .i64 a1] w fun e w' => e = .returned (.int .i64 r) ∧ Drawn0 w w' := by
  have HR0 := Aside0.mk hr0
  have HC0 := Aside0.mk hc0
  clear hr0 hc0
  have H : (stepstoneref11_Kinds.l0 k l0 a1 0 l0 (l0.length : Int) 0) = some r := h
  clear h
  have H' := Aside0.mk H
  clear H
  go_enter Tryd.func46, Tryd.ntmps46
  go_wp2
  repeat (go_quiet (fail); try go_wp2)
  go_loopg [5, 10] k (fun kq v5 v10 w' => ∃ (x5_1 : Int) (x10_1 : Int), v5 = .int .i64 x5_1 ∧ v10 = .int .i64 x10_1 ∧ Aside0 (stepstoneref11_Kinds.l0 kq l0 a1 x5_1 l0 (l0.length : Int) x10_1 = some r) ∧ Aside0 (kq ≤ k) ∧ Drawn0 w w')
  case atStart => exact ⟨(0), (0), (by first | rfl | (simp; done) | (simp [*]; done)), (by first | rfl | (simp; done) | (simp [*]; done)), H', ⟨Nat.le_refl _⟩, by repeat (first | exact Drawn0.refl _ | apply Drawn0.step)⟩
  case round =>
    clear H'
    try clear p2
    obtain ⟨x5_1, x10_1, rfl, rfl, HA, HK1, ⟨m1, rfl⟩⟩ := hrel
    cases gk with
    | zero => exact absurd HA.out (by simp [stepstoneref11_Kinds.l0])
    | succ k1 =>
      have H := HA.out
      clear HA
      simp only [stepstoneref11_Kinds.l0] at H
      by_cases c3 : x10_1 < (l0.length : Int)
      · rw [if_pos c3] at H
        have c3b0 : decide (x10_1 < (l0.length : Int)) = true := decide_eq_true c3
        clear c3
        by_cases c4 : 0 ≤ x10_1
        · rw [if_pos c4] at H
          have c4b0 : decide (0 ≤ x10_1) = true := decide_eq_true c4
          clear c4
          by_cases c5 : x10_1 < (l0.length : Int)
          · rw [if_pos c5] at H
            have c5b0 : decide (x10_1 < (l0.length : Int)) = true := decide_eq_true c5
            clear c5
            by_cases c6 : x10_1 = 0
            · rw [if_pos c6] at H
              have c6b0 : (x10_1 == 0) = true := beq_iff_eq.mpr c6
              have c6b1 : (x10_1 != 0) = false := bne_eq_false_iff_eq.mpr c6
              clear c6
              have H' := Aside0.mk H
              clear H
              have p132 : 0 ≤ (x10_1 : Int) := of_decide_eq_true (by first | (with_reducible assumption) | assumption)
              have q132 : x10_1 < (l0.length : Int) := of_decide_eq_true (by first | (with_reducible assumption) | assumption)
              obtain ⟨ad132, e132, hx132_0⟩ := Kd.at_int HR0.out x10_1 p132 q132
              cases e132
              replace p132 := eq_true p132
              replace q132 := eq_true q132
              go_wp2
              repeat (go_quiet (fail); try go_wp2)
              go_roundg k1
              case measure => have := HK1.out; omega
              case rel => exact ⟨(wrap64 (x5_1 + 1)), (wrap64 (x10_1 + 1)), (by first | rfl | (simp; done) | (simp [*]; done)), (by first | rfl | (simp; done) | (simp [*]; done)), H', ⟨by have := HK1.out; omega⟩, by repeat (first | exact Drawn0.refl _ | apply Drawn0.step)⟩
            · rw [if_neg c6] at H
              have c6b0 : (x10_1 == 0) = false := beq_eq_false_iff_ne.mpr c6
              have c6b1 : (x10_1 != 0) = true := bne_iff_ne.mpr c6
              by_cases c7 : a1 > 0
              · rw [if_pos c7] at H
                have c7b0 : decide (0 < a1) = true := decide_eq_true c7
                clear c7
                obtain ⟨ji8, hji8⟩ : ∃ j_ : Int, (wrap64 (64 - a1)) = j_ := ⟨_, rfl⟩
                replace H : (if 0 ≤ (ji8) then (if 0 ≤ (wrap64 (x10_1 - 1)) then (if (wrap64 (x10_1 - 1)) < (l0.length : Int) then (if (shr .u64 (rd l0 x10_1) (ji8)) = (shr .u64 (rd l0 (wrap64 (x10_1 - 1))) (ji8)) then (stepstoneref11_Kinds.l0 k1 l0 a1 x5_1 l0 (l0.length : Int) (wrap64 (x10_1 + 1))) else (stepstoneref11_Kinds.l0 k1 l0 a1 (wrap64 (x5_1 + 1)) l0 (l0.length : Int) (wrap64 (x10_1 + 1)))) else (none)) else (none)) else (none)) = some r := by first | (rw [hji8] at H; exact H) | (simp only [hji8] at H ⊢; exact H)
                have hji8w : (IntKind.i64.wrap (64 - a1)) = ji8 := (i64_w _).trans hji8
                by_cases c9 : 0 ≤ (ji8)
                · rw [if_pos c9] at H
                  have c9b0 := eq_true c9
                  have c9b1 : decide (0 ≤ (ji8)) = true := decide_eq_true c9
                  clear c9
                  obtain ⟨ji10, hji10⟩ : ∃ j_ : Int, (shr .u64 (rd l0 x10_1) (ji8)) = j_ := ⟨_, rfl⟩
                  replace H : (if 0 ≤ (wrap64 (x10_1 - 1)) then (if (wrap64 (x10_1 - 1)) < (l0.length : Int) then (if (ji10) = (shr .u64 (rd l0 (wrap64 (x10_1 - 1))) (ji8)) then (stepstoneref11_Kinds.l0 k1 l0 a1 x5_1 l0 (l0.length : Int) (wrap64 (x10_1 + 1))) else (stepstoneref11_Kinds.l0 k1 l0 a1 (wrap64 (x5_1 + 1)) l0 (l0.length : Int) (wrap64 (x10_1 + 1)))) else (none)) else (none)) = some r := by first | (rw [hji10] at H; exact H) | (simp only [hji10] at H ⊢; exact H)
                  have hji10_ : ((rd l0 x10_1) / 2 ^ min (ji8).toNat 64) = ji10 := hji10
                  have hji10z : (ji8) ≤ 64 → ((rd l0 x10_1) / 2 ^ (ji8).toNat) = ji10 := shr_small hji10
                  obtain ⟨ji11, hji11⟩ : ∃ j_ : Int, (wrap64 (x10_1 - 1)) = j_ := ⟨_, rfl⟩
                  replace H : (if 0 ≤ (ji11) then (if (ji11) < (l0.length : Int) then (if (ji10) = (shr .u64 (rd l0 (ji11)) (ji8)) then (stepstoneref11_Kinds.l0 k1 l0 a1 x5_1 l0 (l0.length : Int) (wrap64 (x10_1 + 1))) else (stepstoneref11_Kinds.l0 k1 l0 a1 (wrap64 (x5_1 + 1)) l0 (l0.length : Int) (wrap64 (x10_1 + 1)))) else (none)) else (none)) = some r := by first | (rw [hji11] at H; exact H) | (simp only [hji11] at H ⊢; exact H)
                  have hji11w : (IntKind.i64.wrap (x10_1 - 1)) = ji11 := (i64_w _).trans hji11
                  by_cases c12 : 0 ≤ (ji11)
                  · rw [if_pos c12] at H
                    have c12b0 : decide (0 ≤ (ji11)) = true := decide_eq_true c12
                    clear c12
                    by_cases c13 : (ji11) < (l0.length : Int)
                    · rw [if_pos c13] at H
                      have c13b0 : decide ((ji11) < (l0.length : Int)) = true := decide_eq_true c13
                      clear c13
                      have c14b0 := eq_true (of_decide_eq_true (by first | (with_reducible assumption) | assumption) : 0 ≤ (ji8))
                      obtain ⟨ji15, hji15⟩ : ∃ j_ : Int, (shr .u64 (rd l0 (ji11)) (ji8)) = j_ := ⟨_, rfl⟩
                      replace H : (if (ji10) = (ji15) then (stepstoneref11_Kinds.l0 k1 l0 a1 x5_1 l0 (l0.length : Int) (wrap64 (x10_1 + 1))) else (stepstoneref11_Kinds.l0 k1 l0 a1 (wrap64 (x5_1 + 1)) l0 (l0.length : Int) (wrap64 (x10_1 + 1)))) = some r := by first | (rw [hji15] at H; exact H) | (simp only [hji15] at H ⊢; exact H)
                      have hji15_ : ((rd l0 (ji11)) / 2 ^ min (ji8).toNat 64) = ji15 := hji15
                      have hji15z : (ji8) ≤ 64 → ((rd l0 (ji11)) / 2 ^ (ji8).toNat) = ji15 := shr_small hji15
                      by_cases c16 : (ji10) = (ji15)
                      · rw [if_pos c16] at H
                        have c16b0 : ((ji10) == (ji15)) = true := beq_iff_eq.mpr c16
                        have c16b1 : ((ji10) != (ji15)) = false := bne_eq_false_iff_eq.mpr c16
                        clear c16
                        have H' := Aside0.mk H
                        clear H
                        have p132 : 0 ≤ (x10_1 : Int) := of_decide_eq_true (by first | (with_reducible assumption) | assumption)
                        have q132 : x10_1 < (l0.length : Int) := of_decide_eq_true (by first | (with_reducible assumption) | assumption)
                        obtain ⟨ad132, e132, hx132_0⟩ := Kd.at_int HR0.out x10_1 p132 q132
                        cases e132
                        replace p132 := eq_true p132
                        replace q132 := eq_true q132
                        have p133 : 0 ≤ ((ji11) : Int) := of_decide_eq_true (by first | (with_reducible assumption) | assumption)
                        have q133 : (ji11) < (l0.length : Int) := of_decide_eq_true (by first | (with_reducible assumption) | assumption)
                        obtain ⟨ad133, e133, hx133_0⟩ := Kd.at_int HR0.out (ji11) p133 q133
                        obtain rfl : ad132 = ad133 := (by injection e133)
                        replace p133 := eq_true p133
                        replace q133 := eq_true q133
                        go_wp2
                        repeat (go_quiet (fail); try go_wp2)
                        go_roundg k1
                        case measure => have := HK1.out; omega
                        case rel => exact ⟨(x5_1), (wrap64 (x10_1 + 1)), (by first | rfl | (simp; done) | (simp [*]; done)), (by first | rfl | (simp; done) | (simp [*]; done)), H', ⟨by have := HK1.out; omega⟩, by repeat (first | exact Drawn0.refl _ | apply Drawn0.step)⟩
                      · rw [if_neg c16] at H
                        have c16b0 : ((ji10) == (ji15)) = false := beq_eq_false_iff_ne.mpr c16
                        have c16b1 : ((ji10) != (ji15)) = true := bne_iff_ne.mpr c16
                        have H' := Aside0.mk H
                        clear H
                        have p132 : 0 ≤ (x10_1 : Int) := of_decide_eq_true (by first | (with_reducible assumption) | assumption)
                        have q132 : x10_1 < (l0.length : Int) := of_decide_eq_true (by first | (with_reducible assumption) | assumption)
                        obtain ⟨ad132, e132, hx132_0⟩ := Kd.at_int HR0.out x10_1 p132 q132
                        cases e132
                        replace p132 := eq_true p132
                        replace q132 := eq_true q132
                        have p133 : 0 ≤ ((ji11) : Int) := of_decide_eq_true (by first | (with_reducible assumption) | assumption)
                        have q133 : (ji11) < (l0.length : Int) := of_decide_eq_true (by first | (with_reducible assumption) | assumption)
                        obtain ⟨ad133, e133, hx133_0⟩ := Kd.at_int HR0.out (ji11) p133 q133
                        obtain rfl : ad132 = ad133 := (by injection e133)
                        replace p133 := eq_true p133
                        replace q133 := eq_true q133
                        go_wp2
                        repeat (go_quiet (fail); try go_wp2)
                        go_roundg k1
                        case measure => have := HK1.out; omega
                        case rel => exact ⟨(wrap64 (x5_1 + 1)), (wrap64 (x10_1 + 1)), (by first | rfl | (simp; done) | (simp [*]; done)), (by first | rfl | (simp; done) | (simp [*]; done)), H', ⟨by have := HK1.out; omega⟩, by repeat (first | exact Drawn0.refl _ | apply Drawn0.step)⟩
                    · rw [if_neg c13] at H
                      exact absurd H (by simp)
                  · rw [if_neg c12] at H
                    exact absurd H (by simp)
                · rw [if_neg c9] at H
                  exact absurd H (by simp)
              · rw [if_neg c7] at H
                have c7b0 : decide (0 < a1) = false := decide_eq_false c7
                clear c7
                have H' := Aside0.mk H
                clear H
                have p132 : 0 ≤ (x10_1 : Int) := of_decide_eq_true (by first | (with_reducible assumption) | assumption)
                have q132 : x10_1 < (l0.length : Int) := of_decide_eq_true (by first | (with_reducible assumption) | assumption)
                obtain ⟨ad132, e132, hx132_0⟩ := Kd.at_int HR0.out x10_1 p132 q132
                cases e132
                replace p132 := eq_true p132
                replace q132 := eq_true q132
                go_wp2
                repeat (go_quiet (fail); try go_wp2)
                go_roundg k1
                case measure => have := HK1.out; omega
                case rel => exact ⟨(x5_1), (wrap64 (x10_1 + 1)), (by first | rfl | (simp; done) | (simp [*]; done)), (by first | rfl | (simp; done) | (simp [*]; done)), H', ⟨by have := HK1.out; omega⟩, by repeat (first | exact Drawn0.refl _ | apply Drawn0.step)⟩
          · rw [if_neg c5] at H
            exact absurd H (by simp)
        · rw [if_neg c4] at H
          exact absurd H (by simp)
      · rw [if_neg c3] at H
        have c3b0 : decide (x10_1 < (l0.length : Int)) = false := decide_eq_false c3
        clear c3
        obtain rfl := Option.some.inj H
        go_wp2
        repeat (go_quiet (fail); try go_wp2)
        go_ret
        exact ⟨by first | rfl | (simp; done) | (simp [*]; done), by repeat (first | exact Drawn0.refl _ | apply Drawn0.step)⟩

/-! ### stepstoneref11_Trie: function 18 -/
def stepstoneref11_Trie.l0 : Nat → List Int → Int → Int → Option (Int)
  | 0, _, _, _ => none
  | k + 1, x0, x3, x4 => if x4 < 64 then ((stepstoneref11_Kinds.f k x0 x4).bind fun t135 => (stepstoneref11_Trie.l0 k x0 (wrap64 (x3 + t135)) (wrap64 (x4 + 6)))) else (some x3)
def stepstoneref11_Trie.f (k : Nat) (l0 : List Int) : Option (Int) := (stepstoneref11_Kinds.f k l0 0).bind fun t134 => (stepstoneref11_Trie.l0 k l0 t134 4)
theorem stepstoneref11_Trie.mono_l : ∀ k, (∀ y0 y1 y2, LeO (stepstoneref11_Trie.l0 k y0 y1 y2) (stepstoneref11_Trie.l0 (k + 1) y0 y1 y2))
  | 0 => fun _ _ _ r h => by simp [stepstoneref11_Trie.l0] at h
  | k + 1 => by
    have ih0 := stepstoneref11_Trie.mono_l k
    · intro y0 y1 y2
      unfold stepstoneref11_Trie.l0
      repeat' first
      | (with_reducible exact ih0 _ _ _)
      | (with_reducible exact stepstoneref11_Kinds.mono _ _ _)
      | (with_reducible exact LeO.refl _)
      | (with_reducible exact LeO.none _)
      | (with_reducible refine LeO.ite ?_ ?_)
      | (with_reducible refine LeO.bind ?_ (fun _ => ?_))
      | exact ih0 _ _ _
      | exact stepstoneref11_Kinds.mono _ _ _
      | exact LeO.none _
      | refine LeO.ite ?_ ?_
      | refine LeO.bind ?_ (fun _ => ?_)
theorem stepstoneref11_Trie.mono : ∀ a0 k, LeO (stepstoneref11_Trie.f k a0) (stepstoneref11_Trie.f (k + 1) a0) := by
  intro a0 k
  have ih0 := stepstoneref11_Trie.mono_l k
  unfold stepstoneref11_Trie.f
  repeat' first
      | (with_reducible exact ih0 _ _ _)
      | (with_reducible exact stepstoneref11_Kinds.mono _ _ _)
      | (with_reducible exact LeO.refl _)
      | (with_reducible exact LeO.none _)
      | (with_reducible refine LeO.ite ?_ ?_)
      | (with_reducible refine LeO.bind ?_ (fun _ => ?_))
      | exact ih0 _ _ _
      | exact stepstoneref11_Kinds.mono _ _ _
      | exact LeO.none _
      | refine LeO.ite ?_ ?_
      | refine LeO.bind ?_ (fun _ => ?_)
set_option maxHeartbeats 8000000 in
set_option maxRecDepth 100000 in
theorem stepstoneref11_Trie.calls (k : Nat) (A0 : Option Addr) (c0 : Nat) (l0 : List Int) (r : Int) (w : World) (hr0 : Kd.C (Kd.int .u64) w A0 l0.length l0) (hc0 : l0.length ≤ c0) (h : stepstoneref11_Trie.f k l0 = some r) :
    Calls Tryd.prog 18 #[.slice A0 l0.length c0] w fun e w' => e = .returned (.int .i64 r) ∧ Drawn0 w w' := by
  have HR0 := Aside0.mk hr0
  have HC0 := Aside0.mk hc0
  clear hr0 hc0
  have H : ((stepstoneref11_Kinds.f k l0 0).bind fun t134 => (stepstoneref11_Trie.l0 k l0 t134 4)) = some r := h
  clear h
  replace H := Option.bind_eq_some_iff.mp H
  obtain ⟨t134, A20, H⟩ := H
  replace H : (stepstoneref11_Trie.l0 k l0 t134 4) = some r := H
  have A2 := Aside0.mk A20
  clear A20
  have H' := Aside0.mk H
  clear H
  go_enter Tryd.func18, Tryd.ntmps18
  go_wp2_with (first | ((with_reducible refine gate_callee (f := 46) rfl ?_); refine goesL_ (some 6) rfl rfl Tryd.func46 (by kernel_rfl) rfl #[.slice A0 l0.length c0, .int .i64 0] rfl (by (try simp only [List.map_toArray, List.map_cons, List.map_nil]); first | done | rfl | (simp only [List.length_drop, List.length_take]; rfl)) ?_; (with_reducible refine (stepstoneref11_Kinds.calls k _ _ l0 0 t134 _ ?side1 ?side2 A2.out).mono ?_); (case side1 => repeat (first | exact HR0.out | (with_reducible refine Kd.C_alloc ?_ _) | (with_reducible refine Kd.C_drewN ?_ _) | (with_reducible refine Kd.C_drew ?_))); (case side2 => exact HC0.out); rintro e w' ⟨rfl, ⟨nd, rfl⟩⟩; refine ⟨_, rfl, ?_⟩))
  go_loopg [3, 4] k (fun kq v3 v4 w' => ∃ (x3_1 : Int) (x4_1 : Int), v3 = .int .i64 x3_1 ∧ v4 = .int .i64 x4_1 ∧ Aside0 (stepstoneref11_Trie.l0 kq l0 x3_1 x4_1 = some r) ∧ Aside0 (kq ≤ k) ∧ Drawn0 w w')
  case atStart => exact ⟨(t134), (4), (by first | rfl | (simp; done) | (simp [*]; done)), (by first | rfl | (simp; done) | (simp [*]; done)), H', ⟨Nat.le_refl _⟩, by repeat (first | exact Drawn0.refl _ | apply Drawn0.step)⟩
  case round =>
    clear H'
    try clear c1
    try clear p2
    obtain ⟨x3_1, x4_1, rfl, rfl, HA, HK1, ⟨m1, rfl⟩⟩ := hrel
    cases gk with
    | zero => exact absurd HA.out (by simp [stepstoneref11_Trie.l0])
    | succ k1 =>
      have H := HA.out
      clear HA
      simp only [stepstoneref11_Trie.l0] at H
      by_cases c3 : x4_1 < 64
      · rw [if_pos c3] at H
        have c3b0 : decide (x4_1 < 64) = true := decide_eq_true c3
        clear c3
        replace H := Option.bind_eq_some_iff.mp H
        obtain ⟨t135, A40, H⟩ := H
        replace H : (stepstoneref11_Trie.l0 k1 l0 (wrap64 (x3_1 + t135)) (wrap64 (x4_1 + 6))) = some r := H
        have A4 := Aside0.mk A40
        clear A40
        have H' := Aside0.mk H
        clear H
        go_wp2_with (first | ((with_reducible refine gate_callee (f := 46) rfl ?_); refine goesL_ (some 14) rfl rfl Tryd.func46 (by kernel_rfl) rfl #[.slice A0 l0.length c0, .int .i64 x4_1] rfl (by (try simp only [List.map_toArray, List.map_cons, List.map_nil]); first | done | rfl | (simp only [List.length_drop, List.length_take]; rfl)) ?_; (with_reducible refine (stepstoneref11_Kinds.calls k1 _ _ l0 x4_1 t135 _ ?side1 ?side2 A4.out).mono ?_); (case side1 => repeat (first | exact HR0.out | (with_reducible refine Kd.C_alloc ?_ _) | (with_reducible refine Kd.C_drewN ?_ _) | (with_reducible refine Kd.C_drew ?_))); (case side2 => exact HC0.out); rintro e w' ⟨rfl, ⟨nd, rfl⟩⟩; refine ⟨_, rfl, ?_⟩))
        go_roundg k1
        case measure => have := HK1.out; omega
        case rel => exact ⟨(wrap64 (x3_1 + t135)), (wrap64 (x4_1 + 6)), (by first | rfl | (simp; done) | (simp [*]; done)), (by first | rfl | (simp; done) | (simp [*]; done)), H', ⟨by have := HK1.out; omega⟩, by repeat (first | exact Drawn0.refl _ | apply Drawn0.step)⟩
      · rw [if_neg c3] at H
        have c3b0 : decide (x4_1 < 64) = false := decide_eq_false c3
        clear c3
        obtain rfl := Option.some.inj H
        go_wp2
        go_ret
        exact ⟨by first | rfl | (simp; done) | (simp [*]; done), by repeat (first | exact Drawn0.refl _ | apply Drawn0.step)⟩

/-! ### stepstoneref11_Next: function 69 -/
def stepstoneref11_Next.f (k : Nat) (l0 : List Int) (a1 : Int) : Option (Int × Bool) := (stepstoneref11_Find.f k l0 a1).bind fun bt179 => (if bt179.1 = (l0.length : Int) then (some (0, false)) else (if 0 ≤ bt179.1 then (if bt179.1 < (l0.length : Int) then (some (rd l0 bt179.1, true)) else (none)) else (none)))
theorem stepstoneref11_Next.mono : ∀ a0 a1 k, LeO (stepstoneref11_Next.f k a0 a1) (stepstoneref11_Next.f (k + 1) a0 a1) := by
  intro a0 a1 k
  unfold stepstoneref11_Next.f
  repeat' first
      | (with_reducible exact stepstoneref11_Find.mono _ _ _)
      | (with_reducible exact LeO.refl _)
      | (with_reducible exact LeO.none _)
      | (with_reducible refine LeO.ite ?_ ?_)
      | (with_reducible refine LeO.bind ?_ (fun _ => ?_))
      | exact stepstoneref11_Find.mono _ _ _
      | exact LeO.none _
      | refine LeO.ite ?_ ?_
      | refine LeO.bind ?_ (fun _ => ?_)
set_option maxHeartbeats 8000000 in
set_option maxRecDepth 100000 in
theorem stepstoneref11_Next.calls (k : Nat) (A0 : Option Addr) (c0 : Nat) (l0 : List Int) (a1 : Int) (r1 : Int) (r2 : Bool) (w : World) (hr0 : Kd.C (Kd.int .u64) w A0 l0.length l0) (hc0 : l0.length ≤ c0) (h : stepstoneref11_Next.f k l0 a1 = some (r1, r2)) :
    Calls Tryd.prog 69 #[.slice A0 l0.length c0, .int .u64 a1] w fun e w' => e = .returned (.tuple #[.int .u64 r1, .bool r2]) ∧ Drawn0 w w' := by
  have HR0 := Aside0.mk hr0
  have HC0 := Aside0.mk hc0
  clear hr0 hc0
  have H : ((stepstoneref11_Find.f k l0 a1).bind fun bt179 => (if bt179.1 = (l0.length : Int) then (some (0, false)) else (if 0 ≤ bt179.1 then (if bt179.1 < (l0.length : Int) then (some (rd l0 bt179.1, true)) else (none)) else (none)))) = some (r1, r2) := h
  clear h
  replace H := Option.bind_eq_some_iff.mp H
  obtain ⟨⟨t179, t180⟩, A30, H⟩ := H
  replace H : (if t179 = (l0.length : Int) then (some (0, false)) else (if 0 ≤ t179 then (if t179 < (l0.length : Int) then (some (rd l0 t179, true)) else (none)) else (none))) = some (r1, r2) := H
  have A3 := Aside0.mk A30
  clear A30
  by_cases c4 : t179 = (l0.length : Int)
  · rw [if_pos c4] at H
    have c4b0 : (t179 == (l0.length : Int)) = true := beq_iff_eq.mpr c4
    have c4b1 : (t179 != (l0.length : Int)) = false := bne_eq_false_iff_eq.mpr c4
    clear c4
    simp only [Option.some.injEq, Prod.mk.injEq] at H
    obtain ⟨rfl, rfl⟩ := H
    go_enter Tryd.func69, Tryd.ntmps69
    go_wp2_with (first | ((with_reducible refine gate_callee (f := 20) rfl ?_); refine goesL_ (some 11) rfl rfl Tryd.func20 (by kernel_rfl) rfl #[.slice A0 l0.length c0, .int .u64 a1] rfl (by (try simp only [List.map_toArray, List.map_cons, List.map_nil]); first | done | rfl | (simp only [List.length_drop, List.length_take]; rfl)) ?_; (with_reducible refine (stepstoneref11_Find.calls k _ _ l0 a1 t179 t180 _ ?side1 ?side2 A3.out).mono ?_); (case side1 => repeat (first | exact HR0.out | (with_reducible refine Kd.C_alloc ?_ _) | (with_reducible refine Kd.C_drewN ?_ _) | (with_reducible refine Kd.C_drew ?_))); (case side2 => exact HC0.out); rintro e w' ⟨rfl, ⟨nd, rfl⟩⟩; refine ⟨_, rfl, ?_⟩))
    go_ret2
    exact ⟨by first | rfl | (simp; done) | (simp [*]; done), by repeat (first | exact Drawn0.refl _ | apply Drawn0.step)⟩
  · rw [if_neg c4] at H
    have c4b0 : (t179 == (l0.length : Int)) = false := beq_eq_false_iff_ne.mpr c4
    have c4b1 : (t179 != (l0.length : Int)) = true := bne_iff_ne.mpr c4
    by_cases c5 : 0 ≤ t179
    · rw [if_pos c5] at H
      have c5b0 : decide (0 ≤ t179) = true := decide_eq_true c5
      clear c5
      by_cases c6 : t179 < (l0.length : Int)
      · rw [if_pos c6] at H
        have c6b0 : decide (t179 < (l0.length : Int)) = true := decide_eq_true c6
        clear c6
        simp only [Option.some.injEq, Prod.mk.injEq] at H
        obtain ⟨rfl, rfl⟩ := H
        go_enter Tryd.func69, Tryd.ntmps69
        go_wp2_with (first | ((with_reducible refine gate_callee (f := 20) rfl ?_); refine goesL_ (some 11) rfl rfl Tryd.func20 (by kernel_rfl) rfl #[.slice A0 l0.length c0, .int .u64 a1] rfl (by (try simp only [List.map_toArray, List.map_cons, List.map_nil]); first | done | rfl | (simp only [List.length_drop, List.length_take]; rfl)) ?_; (with_reducible refine (stepstoneref11_Find.calls k _ _ l0 a1 t179 t180 _ ?side1 ?side2 A3.out).mono ?_); (case side1 => repeat (first | exact HR0.out | (with_reducible refine Kd.C_alloc ?_ _) | (with_reducible refine Kd.C_drewN ?_ _) | (with_reducible refine Kd.C_drew ?_))); (case side2 => exact HC0.out); rintro e w' ⟨rfl, ⟨nd, rfl⟩⟩; refine ⟨_, rfl, ?_⟩; have p181 : 0 ≤ (t179 : Int) := of_decide_eq_true (by first | (with_reducible assumption) | assumption); have q181 : t179 < (l0.length : Int) := of_decide_eq_true (by first | (with_reducible assumption) | assumption); obtain ⟨ad181, e181, hx181_0⟩ := Kd.at_int HR0.out t179 p181 q181; cases e181; replace p181 := eq_true p181; replace q181 := eq_true q181))
        go_ret2
        exact ⟨by first | rfl | (simp; done) | (simp [*]; done), by repeat (first | exact Drawn0.refl _ | apply Drawn0.step)⟩
      · rw [if_neg c6] at H
        exact absurd H (by simp)
    · rw [if_neg c5] at H
      exact absurd H (by simp)

/-! ### stepstoneref11_Prev: function 70 -/
def stepstoneref11_Prev.f (k : Nat) (l0 : List Int) (a1 : Int) : Option (Int × Bool) := (stepstoneref11_Find.f k l0 a1).bind fun bt182 => (if bt182.2 = true then (some (a1, true)) else (if bt182.1 = 0 then (some (0, false)) else (if 0 ≤ (wrap64 (bt182.1 - 1)) then (if (wrap64 (bt182.1 - 1)) < (l0.length : Int) then (some (rd l0 (wrap64 (bt182.1 - 1)), true)) else (none)) else (none))))
theorem stepstoneref11_Prev.mono : ∀ a0 a1 k, LeO (stepstoneref11_Prev.f k a0 a1) (stepstoneref11_Prev.f (k + 1) a0 a1) := by
  intro a0 a1 k
  unfold stepstoneref11_Prev.f
  repeat' first
      | (with_reducible exact stepstoneref11_Find.mono _ _ _)
      | (with_reducible exact LeO.refl _)
      | (with_reducible exact LeO.none _)
      | (with_reducible refine LeO.ite ?_ ?_)
      | (with_reducible refine LeO.bind ?_ (fun _ => ?_))
      | exact stepstoneref11_Find.mono _ _ _
      | exact LeO.none _
      | refine LeO.ite ?_ ?_
      | refine LeO.bind ?_ (fun _ => ?_)
set_option maxHeartbeats 8000000 in
set_option maxRecDepth 100000 in
theorem stepstoneref11_Prev.calls (k : Nat) (A0 : Option Addr) (c0 : Nat) (l0 : List Int) (a1 : Int) (r1 : Int) (r2 : Bool) (w : World) (hr0 : Kd.C (Kd.int .u64) w A0 l0.length l0) (hc0 : l0.length ≤ c0) (h : stepstoneref11_Prev.f k l0 a1 = some (r1, r2)) :
    Calls Tryd.prog 70 #[.slice A0 l0.length c0, .int .u64 a1] w fun e w' => e = .returned (.tuple #[.int .u64 r1, .bool r2]) ∧ Drawn0 w w' := by
  have HR0 := Aside0.mk hr0
  have HC0 := Aside0.mk hc0
  clear hr0 hc0
  have H : ((stepstoneref11_Find.f k l0 a1).bind fun bt182 => (if bt182.2 = true then (some (a1, true)) else (if bt182.1 = 0 then (some (0, false)) else (if 0 ≤ (wrap64 (bt182.1 - 1)) then (if (wrap64 (bt182.1 - 1)) < (l0.length : Int) then (some (rd l0 (wrap64 (bt182.1 - 1)), true)) else (none)) else (none))))) = some (r1, r2) := h
  clear h
  replace H := Option.bind_eq_some_iff.mp H
  obtain ⟨⟨t182, t183⟩, A30, H⟩ := H
  replace H : (if t183 = true then (some (a1, true)) else (if t182 = 0 then (some (0, false)) else (if 0 ≤ (wrap64 (t182 - 1)) then (if (wrap64 (t182 - 1)) < (l0.length : Int) then (some (rd l0 (wrap64 (t182 - 1)), true)) else (none)) else (none)))) = some (r1, r2) := H
  have A3 := Aside0.mk A30
  clear A30
  by_cases c4 : t183 = true
  · subst c4
    have H1 : (some (a1, true)) = some (r1, r2) := by rw [if_pos rfl] at H; exact H
    clear H
    have H := H1
    clear H1
    simp only [Option.some.injEq, Prod.mk.injEq] at H
    obtain ⟨rfl, rfl⟩ := H
    go_enter Tryd.func70, Tryd.ntmps70
    go_wp2_with (first | ((with_reducible refine gate_callee (f := 20) rfl ?_); refine goesL_ (some 11) rfl rfl Tryd.func20 (by kernel_rfl) rfl #[.slice A0 l0.length c0, .int .u64 a1] rfl (by (try simp only [List.map_toArray, List.map_cons, List.map_nil]); first | done | rfl | (simp only [List.length_drop, List.length_take]; rfl)) ?_; (with_reducible refine (stepstoneref11_Find.calls k _ _ l0 a1 t182 true _ ?side1 ?side2 A3.out).mono ?_); (case side1 => repeat (first | exact HR0.out | (with_reducible refine Kd.C_alloc ?_ _) | (with_reducible refine Kd.C_drewN ?_ _) | (with_reducible refine Kd.C_drew ?_))); (case side2 => exact HC0.out); rintro e w' ⟨rfl, ⟨nd, rfl⟩⟩; refine ⟨_, rfl, ?_⟩))
    go_ret2
    exact ⟨by first | rfl | (simp; done) | (simp [*]; done), by repeat (first | exact Drawn0.refl _ | apply Drawn0.step)⟩
  · replace c4 := Bool.eq_false_iff.mpr c4
    subst c4
    have H1 : (if t182 = 0 then (some (0, false)) else (if 0 ≤ (wrap64 (t182 - 1)) then (if (wrap64 (t182 - 1)) < (l0.length : Int) then (some (rd l0 (wrap64 (t182 - 1)), true)) else (none)) else (none))) = some (r1, r2) := by rw [if_neg (show ¬ (false = true) by decide)] at H; exact H
    clear H
    have H := H1
    clear H1
    by_cases c5 : t182 = 0
    · rw [if_pos c5] at H
      have c5b0 : (t182 == 0) = true := beq_iff_eq.mpr c5
      have c5b1 : (t182 != 0) = false := bne_eq_false_iff_eq.mpr c5
      clear c5
      simp only [Option.some.injEq, Prod.mk.injEq] at H
      obtain ⟨rfl, rfl⟩ := H
      go_enter Tryd.func70, Tryd.ntmps70
      go_wp2_with (first | ((with_reducible refine gate_callee (f := 20) rfl ?_); refine goesL_ (some 11) rfl rfl Tryd.func20 (by kernel_rfl) rfl #[.slice A0 l0.length c0, .int .u64 a1] rfl (by (try simp only [List.map_toArray, List.map_cons, List.map_nil]); first | done | rfl | (simp only [List.length_drop, List.length_take]; rfl)) ?_; (with_reducible refine (stepstoneref11_Find.calls k _ _ l0 a1 t182 false _ ?side1 ?side2 A3.out).mono ?_); (case side1 => repeat (first | exact HR0.out | (with_reducible refine Kd.C_alloc ?_ _) | (with_reducible refine Kd.C_drewN ?_ _) | (with_reducible refine Kd.C_drew ?_))); (case side2 => exact HC0.out); rintro e w' ⟨rfl, ⟨nd, rfl⟩⟩; refine ⟨_, rfl, ?_⟩))
      go_ret2
      exact ⟨by first | rfl | (simp; done) | (simp [*]; done), by repeat (first | exact Drawn0.refl _ | apply Drawn0.step)⟩
    · rw [if_neg c5] at H
      have c5b0 : (t182 == 0) = false := beq_eq_false_iff_ne.mpr c5
      have c5b1 : (t182 != 0) = true := bne_iff_ne.mpr c5
      obtain ⟨ji6, hji6⟩ : ∃ j_ : Int, (wrap64 (t182 - 1)) = j_ := ⟨_, rfl⟩
      replace H : (if 0 ≤ (ji6) then (if (ji6) < (l0.length : Int) then (some (rd l0 (ji6), true)) else (none)) else (none)) = some (r1, r2) := by first | (rw [hji6] at H; exact H) | (simp only [hji6] at H ⊢; exact H)
      (try rw [hji6] at A3)
      have hji6w : (IntKind.i64.wrap (t182 - 1)) = ji6 := (i64_w _).trans hji6
      by_cases c7 : 0 ≤ (ji6)
      · rw [if_pos c7] at H
        have c7b0 : decide (0 ≤ (ji6)) = true := decide_eq_true c7
        clear c7
        by_cases c8 : (ji6) < (l0.length : Int)
        · rw [if_pos c8] at H
          have c8b0 : decide ((ji6) < (l0.length : Int)) = true := decide_eq_true c8
          clear c8
          simp only [Option.some.injEq, Prod.mk.injEq] at H
          obtain ⟨rfl, rfl⟩ := H
          go_enter Tryd.func70, Tryd.ntmps70
          go_wp2_with (first | ((with_reducible refine gate_callee (f := 20) rfl ?_); refine goesL_ (some 11) rfl rfl Tryd.func20 (by kernel_rfl) rfl #[.slice A0 l0.length c0, .int .u64 a1] rfl (by (try simp only [List.map_toArray, List.map_cons, List.map_nil]); first | done | rfl | (simp only [List.length_drop, List.length_take]; rfl)) ?_; (with_reducible refine (stepstoneref11_Find.calls k _ _ l0 a1 t182 false _ ?side1 ?side2 A3.out).mono ?_); (case side1 => repeat (first | exact HR0.out | (with_reducible refine Kd.C_alloc ?_ _) | (with_reducible refine Kd.C_drewN ?_ _) | (with_reducible refine Kd.C_drew ?_))); (case side2 => exact HC0.out); rintro e w' ⟨rfl, ⟨nd, rfl⟩⟩; refine ⟨_, rfl, ?_⟩; have p184 : 0 ≤ ((ji6) : Int) := of_decide_eq_true (by first | (with_reducible assumption) | assumption); have q184 : (ji6) < (l0.length : Int) := of_decide_eq_true (by first | (with_reducible assumption) | assumption); obtain ⟨ad184, e184, hx184_0⟩ := Kd.at_int HR0.out (ji6) p184 q184; cases e184; replace p184 := eq_true p184; replace q184 := eq_true q184))
          go_ret2
          exact ⟨by first | rfl | (simp; done) | (simp only [← hji6] <;> (first | rfl | simp)) | (simp [*]; done), by repeat (first | exact Drawn0.refl _ | apply Drawn0.step)⟩
        · rw [if_neg c8] at H
          exact absurd H (by simp)
      · rw [if_neg c7] at H
        exact absurd H (by simp)

/-! ### stepstonelaw11_steps: function 36 -/
def stepstonelaw11_steps.j0 : Nat → Int → Bool → Option (Int)
  | 0, _, _ => none
  | k + 1, x4, x7 => if x7 = true then (some 12) else (if x4 = 6 then (some 1) else (if x4 = 7 then (some 1) else (some 1073741824)))
def stepstonelaw11_steps.f (k : Nat) (a0 : Int) : Option (Int) := if (Int.tmod a0 9) = 3 then (some 11) else (if (Int.tmod a0 9) = 4 then (stepstonelaw11_steps.j0 k (Int.tmod a0 9) ((Int.tmod a0 9) == 4)) else (stepstonelaw11_steps.j0 k (Int.tmod a0 9) ((Int.tmod a0 9) == 5)))
theorem stepstonelaw11_steps.mono_l : ∀ k, (∀ y0 y1, LeO (stepstonelaw11_steps.j0 k y0 y1) (stepstonelaw11_steps.j0 (k + 1) y0 y1))
  | 0 => fun _ _ r h => by simp [stepstonelaw11_steps.j0] at h
  | k + 1 => by
    have ih0 := stepstonelaw11_steps.mono_l k
    · intro y0 y1
      unfold stepstonelaw11_steps.j0
      repeat' first
      | (with_reducible exact ih0 _ _)
      | (with_reducible exact LeO.refl _)
      | (with_reducible exact LeO.none _)
      | (with_reducible refine LeO.ite ?_ ?_)
      | (with_reducible refine LeO.bind ?_ (fun _ => ?_))
      | exact ih0 _ _
      | exact LeO.none _
      | refine LeO.ite ?_ ?_
      | refine LeO.bind ?_ (fun _ => ?_)
theorem stepstonelaw11_steps.mono : ∀ a0 k, LeO (stepstonelaw11_steps.f k a0) (stepstonelaw11_steps.f (k + 1) a0) := by
  intro a0 k
  have ih0 := stepstonelaw11_steps.mono_l k
  unfold stepstonelaw11_steps.f
  repeat' first
      | (with_reducible exact ih0 _ _)
      | (with_reducible exact LeO.refl _)
      | (with_reducible exact LeO.none _)
      | (with_reducible refine LeO.ite ?_ ?_)
      | (with_reducible refine LeO.bind ?_ (fun _ => ?_))
      | exact ih0 _ _
      | exact LeO.none _
      | refine LeO.ite ?_ ?_
      | refine LeO.bind ?_ (fun _ => ?_)
set_option maxHeartbeats 8000000 in
set_option maxRecDepth 100000 in
theorem stepstonelaw11_steps.calls (k : Nat) (a0 : Int) (r : Int) (w : World) (h : stepstonelaw11_steps.f k a0 = some r) :
    Calls Tryd.prog 36 #[.int .u8 a0] w fun e w' => e = .returned (.int .i64 r) ∧ Drawn0 w w' := by
  have H : (if (Int.tmod a0 9) = 3 then (some 11) else (if (Int.tmod a0 9) = 4 then (stepstonelaw11_steps.j0 k (Int.tmod a0 9) ((Int.tmod a0 9) == 4)) else (stepstonelaw11_steps.j0 k (Int.tmod a0 9) ((Int.tmod a0 9) == 5)))) = some r := h
  clear h
  by_cases c2 : (Int.tmod a0 9) = 3
  · rw [if_pos c2] at H
    have c2b0 : ((Int.tmod a0 9) == 3) = true := beq_iff_eq.mpr c2
    have c2b1 : ((Int.tmod a0 9) != 3) = false := bne_eq_false_iff_eq.mpr c2
    clear c2
    obtain rfl := Option.some.inj H
    go_enter Tryd.func36, Tryd.ntmps36
    go_wp2
    go_ret
    exact ⟨by first | rfl | (simp; done) | (simp [*]; done), by repeat (first | exact Drawn0.refl _ | apply Drawn0.step)⟩
  · rw [if_neg c2] at H
    have c2b0 : ((Int.tmod a0 9) == 3) = false := beq_eq_false_iff_ne.mpr c2
    have c2b1 : ((Int.tmod a0 9) != 3) = true := bne_iff_ne.mpr c2
    have HC3 := Aside0.mk H
    clear H
    go_enter Tryd.func36, Tryd.ntmps36
    go_upto_if 7 with (fail)
    go_cut [7] (fun v7 wc => ∃ (kq : Nat) (x7_2 : Bool), v7 = .bool x7_2 ∧ Aside0 (stepstonelaw11_steps.j0 kq (Int.tmod a0 9) x7_2 = some r) ∧ Aside0 (kq ≤ k) ∧ Drawn0 w wc)
    case first =>
      have H := HC3.out
      clear HC3
      by_cases c4 : (Int.tmod a0 9) = 4
      · rw [if_pos c4] at H
        have c4b0 : ((Int.tmod a0 9) == 4) = true := beq_iff_eq.mpr c4
        have c4b1 : ((Int.tmod a0 9) != 4) = false := bne_eq_false_iff_eq.mpr c4
        clear c4
        (first | rw [c4b0] | (simp only [i64_w, i32_w]; rw [c4b0]) | skip)
        have H' := Aside0.mk H
        clear H
        go_wp2
        go_meet
        case rel => exact ⟨_, (((Int.tmod a0 9) == 4)), (by first | rfl | (simp; done) | (simp [*]; done)), H', ⟨by first | omega | exact Nat.le_refl _⟩, by repeat (first | exact Drawn0.refl _ | apply Drawn0.step)⟩
      · rw [if_neg c4] at H
        have c4b0 : ((Int.tmod a0 9) == 4) = false := beq_eq_false_iff_ne.mpr c4
        have c4b1 : ((Int.tmod a0 9) != 4) = true := bne_iff_ne.mpr c4
        (first | rw [c4b0] | (simp only [i64_w, i32_w]; rw [c4b0]) | skip)
        have H' := Aside0.mk H
        clear H
        go_wp2
        go_meet
        case rel => exact ⟨_, (((Int.tmod a0 9) == 5)), (by first | rfl | (simp; done) | (simp [*]; done)), H', ⟨by first | omega | exact Nat.le_refl _⟩, by repeat (first | exact Drawn0.refl _ | apply Drawn0.step)⟩
    case rest =>
      clear HC3
      try clear c2
      try clear c2b0
      try clear c2b1
      try clear p2
      try clear c3
      try clear c4
      try clear c4b0
      try clear c4b1
      obtain ⟨kq, x7_2, rfl, HA, HJ2, ⟨mc2, rfl⟩⟩ := hcut
      cases kq with
      | zero => exact absurd HA.out (by simp [stepstonelaw11_steps.j0])
      | succ kj2 =>
        have H := HA.out
        clear HA
        simp only [stepstonelaw11_steps.j0] at H
        by_cases c5 : x7_2 = true
        · subst c5
          have H1 : (some 12) = some r := by rw [if_pos rfl] at H; exact H
          clear H
          have H := H1
          clear H1
          obtain rfl := Option.some.inj H
          go_wp2
          go_ret
          exact ⟨by first | rfl | (simp; done) | (simp [*]; done), by repeat (first | exact Drawn0.refl _ | apply Drawn0.step)⟩
        · replace c5 := Bool.eq_false_iff.mpr c5
          subst c5
          have H1 : (if (Int.tmod a0 9) = 6 then (some 1) else (if (Int.tmod a0 9) = 7 then (some 1) else (some 1073741824))) = some r := by rw [if_neg (show ¬ (false = true) by decide)] at H; exact H
          clear H
          have H := H1
          clear H1
          by_cases c6 : (Int.tmod a0 9) = 6
          · rw [if_pos c6] at H
            have c6b0 : ((Int.tmod a0 9) == 6) = true := beq_iff_eq.mpr c6
            have c6b1 : ((Int.tmod a0 9) != 6) = false := bne_eq_false_iff_eq.mpr c6
            clear c6
            obtain rfl := Option.some.inj H
            go_wp2
            go_ret
            exact ⟨by first | rfl | (simp; done) | (simp [*]; done), by repeat (first | exact Drawn0.refl _ | apply Drawn0.step)⟩
          · rw [if_neg c6] at H
            have c6b0 : ((Int.tmod a0 9) == 6) = false := beq_eq_false_iff_ne.mpr c6
            have c6b1 : ((Int.tmod a0 9) != 6) = true := bne_iff_ne.mpr c6
            by_cases c7 : (Int.tmod a0 9) = 7
            · rw [if_pos c7] at H
              have c7b0 : ((Int.tmod a0 9) == 7) = true := beq_iff_eq.mpr c7
              have c7b1 : ((Int.tmod a0 9) != 7) = false := bne_eq_false_iff_eq.mpr c7
              clear c7
              obtain rfl := Option.some.inj H
              go_wp2
              go_ret
              exact ⟨by first | rfl | (simp; done) | (simp [*]; done), by repeat (first | exact Drawn0.refl _ | apply Drawn0.step)⟩
            · rw [if_neg c7] at H
              have c7b0 : ((Int.tmod a0 9) == 7) = false := beq_eq_false_iff_ne.mpr c7
              have c7b1 : ((Int.tmod a0 9) != 7) = true := bne_iff_ne.mpr c7
              obtain rfl := Option.some.inj H
              go_wp2
              go_ret
              exact ⟨by first | rfl | (simp; done) | (simp [*]; done), by repeat (first | exact Drawn0.refl _ | apply Drawn0.step)⟩

end Go.Proofs.YtnhdcefoigmjpaaDoor.PTrieWalks
