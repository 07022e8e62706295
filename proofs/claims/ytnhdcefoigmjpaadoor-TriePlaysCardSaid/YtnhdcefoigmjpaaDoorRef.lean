/-
  The contracts of the references' small functions on lists (stepstoneref01), in terms of plain functions on lists.
-/
import Derived.Test.YtnhdcefoigmjpaaDoorProg
import Derived.Test.YtnhdcefoigmjpaaDoorRefPure
import Derived.RegionTactic
import Derived.BigQuiet
import Derived.Deep.QuietTactic
namespace Go.Proofs.YtnhdcefoigmjpaaDoor
open Go.RowKit Go.Proofs.YtnhdcefoigmjpaaDoorW.PrintWords Go.Proofs.YtnhdcefoigmjpaaDoorW.PrintMore
attribute [local go_sem] max2_int min2_int max_two min_two
set_option linter.unusedVariables false
set_option linter.unusedSimpArgs false

theorem info_i64 : (Tryd.prog.info? 3).map (fun i => (i.zero, i.size, i.bytes)) = some (some (.int .i64 0), 1, 8) := by kernel_rfl
theorem info_u64 : (Tryd.prog.info? 31).map (fun i => (i.zero, i.size, i.bytes)) = some (some (.int .u64 0), 1, 8) := by kernel_rfl
theorem info_u8 : (Tryd.prog.info? 5).map (fun i => (i.zero, i.size, i.bytes)) = some (some (.int .u8 0), 1, 1) := by kernel_rfl

set_option maxHeartbeats 1000000 in
theorem words_calls (A : Option Addr) (c : Nat) (l : List Int) (m : Nat) (w : World) (hr : Kd.C (Kd.int .u64) w A l.length l) (hn : l.length ≤ 140737488351232) (hm : m ≤ 100000000) :
    Calls Tryd.prog 12 #[.slice A l.length c, .int .i64 m] w fun e w' => ∃ v, e = .returned v ∧ Kd.R (Kd.int .u64) 31 w' w.heap.size (fun _ => True) v (l.take m) ∧ Below w.heap.size w w' := by
  have HR := Lib.hid hr
  clear hr
  go_enter Tryd.func12, Tryd.ntmps12
  go_wp2
  go_loopw [5, 10] (fun b i wr => ∃ (k : Nat) (acc : List Int), k ≤ l.length ∧ i = .int .i64 k ∧ acc.length ≤ k ∧ acc.length ≤ m ∧ Hid (Kd.R (Kd.int .u64) 31 wr w.heap.size (fun _ => True) b acc) ∧ Hid (Below w.heap.size w wr) ∧ Hid (acc = (l.take k).take m)) (fun _ i _ => l.length - (intOf i).toNat)
  case atStart => exact ⟨0, [], Nat.zero_le _, rfl, Nat.le_refl _, Nat.zero_le _, Lib.hid (Kd.R_nil _ _ _ _ _), Lib.hid (Below.refl _ _), Lib.hid (by simp)⟩
  case round =>
    obtain ⟨k, acc, hk, rfl, hac, ham, HO, HB, HH⟩ := hrel
    by_cases hlt : k < l.length
    · obtain ⟨ad, hA, hcell⟩ := at_nat HR.out hlt
      cases hA
      have hcell := (HB.out.cell (World.block_lt_of_cell? w _ hcell)).trans hcell
      obtain ⟨x, hx⟩ : ∃ x, x = l[k] := ⟨_, rfl⟩
      rw [← hx] at hcell
      have HX := Lib.hid hx
      clear hx
      by_cases hxn : k < m
      · go_wp2_with (at_builtin; refine Kd.R_append (Kd.int .u64) (w0 := w) w.heap.size rfl (.tmp 18) (.tmp 20) 22 31 (.int .u64 0) 8 rfl Tryd.underlying22 info_u64 rfl (by decide) (by omega) _ acc x [.int .u64 x] (fun _ => True) (fun _ => False) rfl rfl rfl (fun _ hk => hk.elim) (fun _ _ => trivial) HO.out HB.out HB.out.size (by (try simp only [List.length_append, List.length_cons, List.length_nil]); omega) ?_; intro v1 w1 ho hb hg hat; have HO' := Lib.hid ho; have HB' := Lib.hid hb; clear ho hb hg hat HO HB; have HO := HO'; have HB := HB'; clear HO' HB')
        go_roundw
        case rel => exact ⟨k + 1, acc ++ [x], by omega, by go_num, by simp; omega, by simp; omega, HO, HB, Lib.hid (by rw [take_step_lt hlt hxn, HH.out, HX.out])⟩
        case measure => simp [intOf]; omega
      · go_wp2
        go_roundw
        case rel => exact ⟨k + 1, acc, by omega, by go_num, by omega, ham, HO, HB, Lib.hid (by rw [take_step_ge (by omega), HH.out])⟩
        case measure => simp [intOf]; omega
    · go_wp2
      go_ret
      refine ⟨_, rfl, ?_, HB.out⟩
      have e := HH.out
      rw [List.take_of_length_le (i := k) (by omega)] at e
      rw [← e]; exact HO.out
set_option maxHeartbeats 1000000 in
theorem samekeys_calls (A B : Option Addr) (c d : Nat) (l m : List Int) (w : World) (hr : Kd.C (Kd.int .u64) w A l.length l) (hr2 : Kd.C (Kd.int .u64) w B m.length m) (hn : l.length ≤ 140737488351232) :
    Calls Tryd.prog 37 #[.slice A l.length c, .slice B m.length d] w fun e w' => e = .returned (.bool (decide (l = m))) ∧ Nw w w' := by
  have HR := Lib.hid hr
  have HR2 := Lib.hid hr2
  clear hr hr2
  by_cases hlen : l.length = m.length
  · have t1 : ((l.length : Int) == (m.length : Int)) = true := by simp [hlen]
    have t2 : ((l.length : Int) != (m.length : Int)) = false := by simp [hlen]
    have hl1 : l.length ≤ m.length := by omega
    have HL := Lib.hid hlen
    clear hlen
    go_enter Tryd.func37, Tryd.ntmps37
    go_wp2
    go_loopw [13] (fun i wr => ∃ k : Nat, k ≤ l.length ∧ i = .int .i64 k ∧ Hid (l.take k = m.take k) ∧ Hid (Nw w wr)) (fun i _ => l.length - (intOf i).toNat)
    case atStart => exact ⟨0, Nat.zero_le _, rfl, Lib.hid rfl, Lib.hid (Fr.refl _ _)⟩
    case round =>
      obtain ⟨k, hk, rfl, HH, HF⟩ := hrel
      by_cases hlt : k < l.length
      · have hlt2 : k < m.length := by omega
        obtain ⟨ad, hA, hcell⟩ := at_nat HR.out hlt
        cases hA
        obtain ⟨ae, hB, hcell2⟩ := at_nat HR2.out hlt2
        cases hB
        have hcell := HF.out.cell hcell (fun h => h)
        have hcell2 := HF.out.cell hcell2 (fun h => h)
        have HD := Lib.hid (List.take_succ_eq_append_getElem hlt)
        have HD2 := Lib.hid (List.take_succ_eq_append_getElem hlt2)
        obtain ⟨x, hx⟩ : ∃ x, x = l[k] := ⟨_, rfl⟩
        obtain ⟨y, hy⟩ : ∃ y, y = m[k] := ⟨_, rfl⟩
        rw [← hx] at hcell HD
        rw [← hy] at hcell2 HD2
        have i1 : (0 : Int) ≤ (k : Int) := by omega
        have i2 : (k : Int) < (l.length : Int) := by omega
        have i3 : (k : Int) < (m.length : Int) := by omega
        have HY := Lib.hid hy
        have HX := Lib.hid hx
        clear hx hy
        by_cases hxy : x = y
        · have t3 : (x == y) = true := by simp [hxy]
          have t4 : (x != y) = false := by simp [hxy]
          have HXY := Lib.hid hxy
          clear hxy
          go_wp2
          go_quiet (fail)
          go_wp2
          go_roundw
          case rel => exact ⟨k + 1, by omega, by go_num, Lib.hid (by rw [HD.out, HD2.out, HH.out, HXY.out]), Lib.hid (HF.out.drewN _)⟩
          case measure => simp [intOf]; omega
        · have t3 : (x == y) = false := by simp [hxy]
          have t4 : (x != y) = true := by simp [hxy]
          have HXY := Lib.hid hxy
          clear hxy
          go_wp2
          go_quiet (fail)
          go_wp2
          go_ret
          refine ⟨?_, HF.out.drewN _⟩
          have : ¬ l = m := fun e => HXY.out (by rw [HX.out, HY.out]; subst e; rfl)
          show Ending.returned (.bool false) = _
          rw [decide_eq_false this]
      · go_wp2
        go_ret
        refine ⟨?_, HF.out⟩
        have e := HH.out
        rw [List.take_of_length_le (by omega), List.take_of_length_le (by have := HL.out; omega)] at e
        show Ending.returned (.bool true) = _
        rw [decide_eq_true e]
  · have t1 : ((l.length : Int) == (m.length : Int)) = false := by simp; omega
    have t2 : ((l.length : Int) != (m.length : Int)) = true := by rw [bne_iff_ne]; omega
    have HL := Lib.hid hlen
    clear hlen
    go_enter Tryd.func37, Tryd.ntmps37
    go_wp2
    go_ret
    refine ⟨?_, Fr.refl _ _⟩
    have : ¬ l = m := fun e => HL.out (by rw [e])
    show Ending.returned (.bool false) = _
    rw [decide_eq_false this]
end Go.Proofs.YtnhdcefoigmjpaaDoor
