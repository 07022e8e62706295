/-
  The contracts of the package bitmap: joined, Or, And, Less, Xor.
-/
import Derived.Test.YtiekoidlibhoeaaDoorBm2
namespace Go.Proofs.YtiekoidlibhoeaaDoor
open Go.RowKit Go.Shelf Go.Proofs.YtiekoidlibhoeaaDoorW.PrintWords Go.Proofs.YtiekoidlibhoeaaDoorW.PrintMore
set_option linter.unusedVariables false
set_option linter.unusedSimpArgs false

/-- A bitmap or none, its strip, its words, what it holds. -/
structure JB where
  P : Option Addr
  p : Nat
  q : Nat
  B : Nat
/-- Pointers behind one another. -/
def PB (W : World) (g : Nat) (rs : List JB) : Prop := ∀ k (h : k < rs.length), W.cell? ⟨g, k, none⟩ = some (.pointer rs[k].P) ∧ BP W rs[k].P rs[k].p rs[k].q rs[k].B ∧ rs[k].B < 2 ^ (64 * 1024)
theorem PB.nw {W W1 : World} {g : Nat} {rs : List JB} (h : PB W g rs) (hf : Nw W W1) : PB W1 g rs := fun k hk => by
  obtain ⟨h1, h2, h3⟩ := h k hk
  exact ⟨hf.cell h1 (fun h => h), h2.nw hf, h3⟩
/-- All of them, one after another. -/
def foldJ (op : Nat) (rs : List JB) : Nat := match rs with | [] => 0 | r :: t => t.foldl (fun C r => joinN op C r.B) r.B
theorem foldJ_snoc (op : Nat) (rs : List JB) (k : Nat) (h0 : 0 < k) (h : k < rs.length) : foldJ op (rs.take (k + 1)) = joinN op (foldJ op (rs.take k)) rs[k].B := by
  cases rs with
  | nil => simp at h
  | cons r t =>
    obtain ⟨j, rfl⟩ : ∃ j, k = j + 1 := ⟨k - 1, by omega⟩
    have hj : j < t.length := by simpa using h
    rw [List.take_succ_cons, List.take_succ_cons]
    show (t.take (j + 1)).foldl _ r.B = joinN op ((t.take j).foldl _ r.B) _
    rw [List.take_succ_eq_append_getElem hj, List.foldl_append]; rfl
theorem foldJ_lt {op D : Nat} (rs : List JB) (h : ∀ r, r ∈ rs → r.B < 2 ^ D) : foldJ op rs < 2 ^ D := by
  cases rs with
  | nil => exact Nat.two_pow_pos D
  | cons r t =>
    show t.foldl _ r.B < _
    have h0 := h r List.mem_cons_self
    have ht : ∀ r, r ∈ t → r.B < 2 ^ D := fun x hx => h x (List.mem_cons_of_mem _ hx)
    clear h
    generalize r.B = C at h0
    induction t generalizing C with
    | nil => exact h0
    | cons x t ih => exact ih (fun y hy => ht y (List.mem_cons_of_mem _ hy)) _ (join_lt h0 (ht x List.mem_cons_self))

set_option maxRecDepth 100000 in
set_option maxHeartbeats 4000000 in
theorem joined_or (g M cap : Nat) (rs : List JB) (w : World) (hM : rs.length = M) (h0 : 2 ≤ M) (hMm : M ≤ 1000) (hcap : M ≤ cap) (hP : PB w g rs) :
    Calls Tryd.prog 56 #[.slice (some ⟨g, 0, none⟩) M cap, .func (.func 57) #[] #[]] w fun e w' => ∃ b p q, e = .returned (.pointer (some ⟨b, 0, none⟩)) ∧ (w.heap.size ≤ b ∧ w.heap.size ≤ p ∧ w.heap.size ≤ q) ∧ BM w' b p q (foldJ 0 rs) ∧ Nw w w' := by
  have HP := Lib.hid hP
  have HMl := Lib.hid hM
  obtain ⟨hc, hb, hlt0⟩ := hP 0 (by omega)
  clear hlt0
  have hf0 : foldJ 0 (rs.take 1) = (rs[0]'(by omega)).B := by
    cases rs with
    | nil => simp at hM; omega
    | cons r t => rfl
  obtain ⟨⟨P0, p0, q0, B0⟩, hr0⟩ : ∃ r, r = rs[0]'(by omega) := ⟨_, rfl⟩
  rw [← hr0] at hc hb hf0
  simp only at hc hb hf0
  have HW0 := Lib.hid (bm_words P0 p0 q0 B0 w hb)
  have HF0 := Lib.hid hf0
  clear hP hM hb hr0 hf0
  have e0 : ((M : Int) == 0) = false := by simp; omega
  have h1 : (1 : Int) ≤ (M : Int) := by omega
  have e1 : (M : Int) - 1 = ((M - 1 : Nat) : Int) := by omega
  have hi0 : (0 : Int) < (M : Int) := by omega
  have hcap1 : ¬ cap = 1 := by omega
  go_enter Tryd.func56, Tryd.ntmps56
  go_wp2_with (go_at_call 43; refine HW0.out.mono ?_; rintro e w1 ⟨u, c, rfl, hu, hF, hN⟩; have HF := Lib.hid hF; have HN := Lib.hid hN; clear hF hN)
  have hug : u < w1.heap.size := HF.out.glt
  · go_loopw [21] (fun i wr => ∃ k : Nat, k ≤ M - 1 ∧ i = .int .i64 k ∧ Hid (WF wr u (wordN (foldJ 0 (rs.take (k + 1))))) ∧ Hid (Nw w wr)) (fun i _ => M - (intOf i).toNat)
    case atStart => exact ⟨0, Nat.zero_le _, rfl, Lib.hid (by rw [HF0.out]; exact HF.out), HN⟩
    case round =>
      obtain ⟨k, hk, rfl, HW, HN⟩ := hrel
      by_cases hlt : k < M - 1
      · have hi : (k : Int) < ((M - 1 : Nat) : Int) := by omega
        obtain ⟨hc, hb, hbl⟩ := (HP.out.nw HN.out) (k + 1) (by have := HMl.out; omega)
        have HSn := Lib.hid (foldJ_snoc 0 rs (k + 1) (by omega) (by have := HMl.out; omega))
        have hgB : ∀ i, i < 1024 → wordN (rs[k + 1]'(by have := HMl.out; omega)).B i < 18446744073709551616 := fun i _ => wordN_lt _ _
        obtain ⟨⟨P1, p1, q1, B1⟩, hr1⟩ : ∃ r, r = rs[k + 1]'(by have := HMl.out; omega) := ⟨_, rfl⟩
        rw [← hr1] at hc hb HSn
        simp only at hc hb HSn
        have HW1 := Lib.hid (bm_words P1 p1 q1 B1 _ hb)
        obtain ⟨C, hC⟩ : ∃ C, C = foldJ 0 (rs.take (k + 1)) := ⟨_, rfl⟩
        rw [← hC] at HW HSn
        have HBt := Lib.hid (HP.out.nw HN.out)
        clear hb hbl hgB hr1 hC
        have hc' : wr.cell? ⟨g, 1 + k, none⟩ = some (.pointer P1) := by rw [Nat.add_comm]; exact hc
        go_wp2_with (go_at_call 43; refine HW1.out.mono ?_; rintro e w5 ⟨v, c5, rfl, hv, hF, hN5⟩; have HV := Lib.hid hF; have HN5 := Lib.hid hN5; clear hF hN5)
        have huv : u ≠ v := by have := HW.out.glt; omega
        have hvl : v < w5.heap.size := HV.out.glt
        have hul : u < w5.heap.size := Nat.lt_of_lt_of_le HW.out.glt HN5.out.size
        go_loopw [28] (fun i wr2 => ∃ j : Nat, j ≤ 1024 ∧ i = .int .i64 j ∧ Hid (WF wr2 u (fun i => if i < j then wordN (joinN 0 C B1) i else wordN C i)) ∧ Hid (Fr (One u) w5 wr2)) (fun i _ => 1024 - (intOf i).toNat)
        case atStart => exact ⟨0, Nat.zero_le _, rfl, Lib.hid ((HW.out.nw HN5.out).same (fun i hi => by rw [if_neg (by omega)])), Lib.hid (Fr.refl _ _)⟩
        case round =>
          obtain ⟨j, hj, rfl, HWj, HFj⟩ := hrel
          by_cases hlj : j < 1024
          · have hij : (j : Int) < 1024 := by omega
            have hcu := HWj.out.cell hlj
            have hcv := (HV.out.keep (W1 := wr) (fun cs hb => HFj.out.blk hb (One.ne (fun e => huv e.symm)))).cell hlj
            have hfz := HWj.out.frozen j
            simp only [if_neg (Nat.lt_irrefl j)] at hcu
            have HO := Lib.hid (fun W => or1_calls (wordN C j) (wordN B1 j) W (wordN_lt _ _) (wordN_lt _ _))
            rw [← join_word] at HO
            obtain ⟨x, hx⟩ : ∃ x, x = wordN C j := ⟨_, rfl⟩
            obtain ⟨y, hy⟩ : ∃ y, y = wordN B1 j := ⟨_, rfl⟩
            obtain ⟨z, hz⟩ : ∃ z, z = wordN (joinN 0 C B1) j := ⟨_, rfl⟩
            rw [← hx] at hcu HO
            rw [← hy] at hcv HO
            rw [← hz] at HO
            have HZ := Lib.hid hz
            clear hx hy hz
            go_wp2_with (go_at_call 57; refine (HO.out _).mono ?_; rintro e w6 ⟨rfl, rfl⟩)
            go_roundw
            case rel => exact ⟨j + 1, by omega, by go_num, Lib.hid (HWj.out.put (by rw [if_pos (Nat.lt_succ_self j), HZ.out]) (fun i hi => by by_cases h : i < j; rw [if_pos (by omega), if_pos h]; rw [if_neg (by omega), if_neg h])), Lib.hid (HFj.out.set (One.self u) j _)⟩
            case measure => simp [intOf]; omega
          · have hij : ¬ (j : Int) < 1024 := by omega
            have HJ : Hid (j = 1024) := Lib.hid (by omega)
            clear hlj
            go_wp2
            go_roundw
            case rel => exact ⟨k + 1, by omega, by go_num, Lib.hid (by rw [HSn.out]; exact HWj.out.same (fun i hi => by rw [if_pos (by rw [HJ.out]; exact hi)])), Lib.hid ((HN.out.trans HN5.out).trans_new HFj.out hu)⟩
            case measure => simp [intOf]; omega
      · have hi : ¬ (k : Int) < ((M - 1 : Nat) : Int) := by omega
        have HE : Hid (rs.take (k + 1) = rs) := Lib.hid (List.take_of_length_le (by have := HMl.out; omega))
        rw [HE.out] at HW
        have HL := Lib.hid (foldJ_lt (op := 0) (D := 64 * 1024) rs (fun r hr => by
          obtain ⟨i, hi, rfl⟩ := List.getElem_of_mem hr
          exact (HP.out i hi).2.2))
        obtain ⟨J, hJ⟩ : ∃ J, J = foldJ 0 rs := ⟨_, rfl⟩
        rw [← hJ] at HW HL
        have HJ := Lib.hid hJ
        clear hJ hlt
        go_wp2_with (go_at_call 53; refine (bm_of (some ⟨u, 0, none⟩) c J _ HL.out (HW.out.reads rfl)).mono ?_; rintro e w7 ⟨b7, p7, q7, rfl, hb7, hM7, hN7⟩; have HM7 := Lib.hid hM7; have HN7 := Lib.hid hN7; have HB7 := Lib.hid hb7; clear hM7 hN7 hb7)
        go_ret
        have h7 := HB7.out
        have hs := HN.out.size
        exact ⟨b7, p7, q7, rfl, ⟨by omega, by omega, by omega⟩, by rw [← HJ.out]; exact HM7.out, HN.out.trans HN7.out⟩
set_option maxRecDepth 100000 in
set_option maxHeartbeats 4000000 in
theorem joined_and (g M cap : Nat) (rs : List JB) (w : World) (hM : rs.length = M) (h0 : 2 ≤ M) (hMm : M ≤ 1000) (hcap : M ≤ cap) (hP : PB w g rs) :
    Calls Tryd.prog 56 #[.slice (some ⟨g, 0, none⟩) M cap, .func (.func 58) #[] #[]] w fun e w' => ∃ b p q, e = .returned (.pointer (some ⟨b, 0, none⟩)) ∧ (w.heap.size ≤ b ∧ w.heap.size ≤ p ∧ w.heap.size ≤ q) ∧ BM w' b p q (foldJ 1 rs) ∧ Nw w w' := by
  have HP := Lib.hid hP
  have HMl := Lib.hid hM
  obtain ⟨hc, hb, hlt0⟩ := hP 0 (by omega)
  clear hlt0
  have hf0 : foldJ 1 (rs.take 1) = (rs[0]'(by omega)).B := by
    cases rs with
    | nil => simp at hM; omega
    | cons r t => rfl
  obtain ⟨⟨P0, p0, q0, B0⟩, hr0⟩ : ∃ r, r = rs[0]'(by omega) := ⟨_, rfl⟩
  rw [← hr0] at hc hb hf0
  simp only at hc hb hf0
  have HW0 := Lib.hid (bm_words P0 p0 q0 B0 w hb)
  have HF0 := Lib.hid hf0
  clear hP hM hb hr0 hf0
  have e0 : ((M : Int) == 0) = false := by simp; omega
  have h1 : (1 : Int) ≤ (M : Int) := by omega
  have e1 : (M : Int) - 1 = ((M - 1 : Nat) : Int) := by omega
  have hi0 : (0 : Int) < (M : Int) := by omega
  have hcap1 : ¬ cap = 1 := by omega
  go_enter Tryd.func56, Tryd.ntmps56
  go_wp2_with (go_at_call 43; refine HW0.out.mono ?_; rintro e w1 ⟨u, c, rfl, hu, hF, hN⟩; have HF := Lib.hid hF; have HN := Lib.hid hN; clear hF hN)
  have hug : u < w1.heap.size := HF.out.glt
  · go_loopw [21] (fun i wr => ∃ k : Nat, k ≤ M - 1 ∧ i = .int .i64 k ∧ Hid (WF wr u (wordN (foldJ 1 (rs.take (k + 1))))) ∧ Hid (Nw w wr)) (fun i _ => M - (intOf i).toNat)
    case atStart => exact ⟨0, Nat.zero_le _, rfl, Lib.hid (by rw [HF0.out]; exact HF.out), HN⟩
    case round =>
      obtain ⟨k, hk, rfl, HW, HN⟩ := hrel
      by_cases hlt : k < M - 1
      · have hi : (k : Int) < ((M - 1 : Nat) : Int) := by omega
        obtain ⟨hc, hb, hbl⟩ := (HP.out.nw HN.out) (k + 1) (by have := HMl.out; omega)
        have HSn := Lib.hid (foldJ_snoc 1 rs (k + 1) (by omega) (by have := HMl.out; omega))
        have hgB : ∀ i, i < 1024 → wordN (rs[k + 1]'(by have := HMl.out; omega)).B i < 18446744073709551616 := fun i _ => wordN_lt _ _
        obtain ⟨⟨P1, p1, q1, B1⟩, hr1⟩ : ∃ r, r = rs[k + 1]'(by have := HMl.out; omega) := ⟨_, rfl⟩
        rw [← hr1] at hc hb HSn
        simp only at hc hb HSn
        have HW1 := Lib.hid (bm_words P1 p1 q1 B1 _ hb)
        obtain ⟨C, hC⟩ : ∃ C, C = foldJ 1 (rs.take (k + 1)) := ⟨_, rfl⟩
        rw [← hC] at HW HSn
        have HBt := Lib.hid (HP.out.nw HN.out)
        clear hb hbl hgB hr1 hC
        have hc' : wr.cell? ⟨g, 1 + k, none⟩ = some (.pointer P1) := by rw [Nat.add_comm]; exact hc
        go_wp2_with (go_at_call 43; refine HW1.out.mono ?_; rintro e w5 ⟨v, c5, rfl, hv, hF, hN5⟩; have HV := Lib.hid hF; have HN5 := Lib.hid hN5; clear hF hN5)
        have huv : u ≠ v := by have := HW.out.glt; omega
        have hvl : v < w5.heap.size := HV.out.glt
        have hul : u < w5.heap.size := Nat.lt_of_lt_of_le HW.out.glt HN5.out.size
        go_loopw [28] (fun i wr2 => ∃ j : Nat, j ≤ 1024 ∧ i = .int .i64 j ∧ Hid (WF wr2 u (fun i => if i < j then wordN (joinN 1 C B1) i else wordN C i)) ∧ Hid (Fr (One u) w5 wr2)) (fun i _ => 1024 - (intOf i).toNat)
        case atStart => exact ⟨0, Nat.zero_le _, rfl, Lib.hid ((HW.out.nw HN5.out).same (fun i hi => by rw [if_neg (by omega)])), Lib.hid (Fr.refl _ _)⟩
        case round =>
          obtain ⟨j, hj, rfl, HWj, HFj⟩ := hrel
          by_cases hlj : j < 1024
          · have hij : (j : Int) < 1024 := by omega
            have hcu := HWj.out.cell hlj
            have hcv := (HV.out.keep (W1 := wr) (fun cs hb => HFj.out.blk hb (One.ne (fun e => huv e.symm)))).cell hlj
            have hfz := HWj.out.frozen j
            simp only [if_neg (Nat.lt_irrefl j)] at hcu
            have HO := Lib.hid (fun W => and1_calls (wordN C j) (wordN B1 j) W (wordN_lt _ _) (wordN_lt _ _))
            rw [← join_word] at HO
            obtain ⟨x, hx⟩ : ∃ x, x = wordN C j := ⟨_, rfl⟩
            obtain ⟨y, hy⟩ : ∃ y, y = wordN B1 j := ⟨_, rfl⟩
            obtain ⟨z, hz⟩ : ∃ z, z = wordN (joinN 1 C B1) j := ⟨_, rfl⟩
            rw [← hx] at hcu HO
            rw [← hy] at hcv HO
            rw [← hz] at HO
            have HZ := Lib.hid hz
            clear hx hy hz
            go_wp2_with (go_at_call 58; refine (HO.out _).mono ?_; rintro e w6 ⟨rfl, rfl⟩)
            go_roundw
            case rel => exact ⟨j + 1, by omega, by go_num, Lib.hid (HWj.out.put (by rw [if_pos (Nat.lt_succ_self j), HZ.out]) (fun i hi => by by_cases h : i < j; rw [if_pos (by omega), if_pos h]; rw [if_neg (by omega), if_neg h])), Lib.hid (HFj.out.set (One.self u) j _)⟩
            case measure => simp [intOf]; omega
          · have hij : ¬ (j : Int) < 1024 := by omega
            have HJ : Hid (j = 1024) := Lib.hid (by omega)
            clear hlj
            go_wp2
            go_roundw
            case rel => exact ⟨k + 1, by omega, by go_num, Lib.hid (by rw [HSn.out]; exact HWj.out.same (fun i hi => by rw [if_pos (by rw [HJ.out]; exact hi)])), Lib.hid ((HN.out.trans HN5.out).trans_new HFj.out hu)⟩
            case measure => simp [intOf]; omega
      · have hi : ¬ (k : Int) < ((M - 1 : Nat) : Int) := by omega
        have HE : Hid (rs.take (k + 1) = rs) := Lib.hid (List.take_of_length_le (by have := HMl.out; omega))
        rw [HE.out] at HW
        have HL := Lib.hid (foldJ_lt (op := 1) (D := 64 * 1024) rs (fun r hr => by
          obtain ⟨i, hi, rfl⟩ := List.getElem_of_mem hr
          exact (HP.out i hi).2.2))
        obtain ⟨J, hJ⟩ : ∃ J, J = foldJ 1 rs := ⟨_, rfl⟩
        rw [← hJ] at HW HL
        have HJ := Lib.hid hJ
        clear hJ hlt
        go_wp2_with (go_at_call 53; refine (bm_of (some ⟨u, 0, none⟩) c J _ HL.out (HW.out.reads rfl)).mono ?_; rintro e w7 ⟨b7, p7, q7, rfl, hb7, hM7, hN7⟩; have HM7 := Lib.hid hM7; have HN7 := Lib.hid hN7; have HB7 := Lib.hid hb7; clear hM7 hN7 hb7)
        go_ret
        have h7 := HB7.out
        have hs := HN.out.size
        exact ⟨b7, p7, q7, rfl, ⟨by omega, by omega, by omega⟩, by rw [← HJ.out]; exact HM7.out, HN.out.trans HN7.out⟩
set_option maxRecDepth 100000 in
set_option maxHeartbeats 4000000 in
theorem joined_less (g M cap : Nat) (rs : List JB) (w : World) (hM : rs.length = M) (h0 : 2 ≤ M) (hMm : M ≤ 1000) (hcap : M ≤ cap) (hP : PB w g rs) :
    Calls Tryd.prog 56 #[.slice (some ⟨g, 0, none⟩) M cap, .func (.func 59) #[] #[]] w fun e w' => ∃ b p q, e = .returned (.pointer (some ⟨b, 0, none⟩)) ∧ (w.heap.size ≤ b ∧ w.heap.size ≤ p ∧ w.heap.size ≤ q) ∧ BM w' b p q (foldJ 2 rs) ∧ Nw w w' := by
  have HP := Lib.hid hP
  have HMl := Lib.hid hM
  obtain ⟨hc, hb, hlt0⟩ := hP 0 (by omega)
  clear hlt0
  have hf0 : foldJ 2 (rs.take 1) = (rs[0]'(by omega)).B := by
    cases rs with
    | nil => simp at hM; omega
    | cons r t => rfl
  obtain ⟨⟨P0, p0, q0, B0⟩, hr0⟩ : ∃ r, r = rs[0]'(by omega) := ⟨_, rfl⟩
  rw [← hr0] at hc hb hf0
  simp only at hc hb hf0
  have HW0 := Lib.hid (bm_words P0 p0 q0 B0 w hb)
  have HF0 := Lib.hid hf0
  clear hP hM hb hr0 hf0
  have e0 : ((M : Int) == 0) = false := by simp; omega
  have h1 : (1 : Int) ≤ (M : Int) := by omega
  have e1 : (M : Int) - 1 = ((M - 1 : Nat) : Int) := by omega
  have hi0 : (0 : Int) < (M : Int) := by omega
  have hcap1 : ¬ cap = 1 := by omega
  go_enter Tryd.func56, Tryd.ntmps56
  go_wp2_with (go_at_call 43; refine HW0.out.mono ?_; rintro e w1 ⟨u, c, rfl, hu, hF, hN⟩; have HF := Lib.hid hF; have HN := Lib.hid hN; clear hF hN)
  have hug : u < w1.heap.size := HF.out.glt
  · go_loopw [21] (fun i wr => ∃ k : Nat, k ≤ M - 1 ∧ i = .int .i64 k ∧ Hid (WF wr u (wordN (foldJ 2 (rs.take (k + 1))))) ∧ Hid (Nw w wr)) (fun i _ => M - (intOf i).toNat)
    case atStart => exact ⟨0, Nat.zero_le _, rfl, Lib.hid (by rw [HF0.out]; exact HF.out), HN⟩
    case round =>
      obtain ⟨k, hk, rfl, HW, HN⟩ := hrel
      by_cases hlt : k < M - 1
      · have hi : (k : Int) < ((M - 1 : Nat) : Int) := by omega
        obtain ⟨hc, hb, hbl⟩ := (HP.out.nw HN.out) (k + 1) (by have := HMl.out; omega)
        have HSn := Lib.hid (foldJ_snoc 2 rs (k + 1) (by omega) (by have := HMl.out; omega))
        have hgB : ∀ i, i < 1024 → wordN (rs[k + 1]'(by have := HMl.out; omega)).B i < 18446744073709551616 := fun i _ => wordN_lt _ _
        obtain ⟨⟨P1, p1, q1, B1⟩, hr1⟩ : ∃ r, r = rs[k + 1]'(by have := HMl.out; omega) := ⟨_, rfl⟩
        rw [← hr1] at hc hb HSn
        simp only at hc hb HSn
        have HW1 := Lib.hid (bm_words P1 p1 q1 B1 _ hb)
        obtain ⟨C, hC⟩ : ∃ C, C = foldJ 2 (rs.take (k + 1)) := ⟨_, rfl⟩
        rw [← hC] at HW HSn
        have HBt := Lib.hid (HP.out.nw HN.out)
        clear hb hbl hgB hr1 hC
        have hc' : wr.cell? ⟨g, 1 + k, none⟩ = some (.pointer P1) := by rw [Nat.add_comm]; exact hc
        go_wp2_with (go_at_call 43; refine HW1.out.mono ?_; rintro e w5 ⟨v, c5, rfl, hv, hF, hN5⟩; have HV := Lib.hid hF; have HN5 := Lib.hid hN5; clear hF hN5)
        have huv : u ≠ v := by have := HW.out.glt; omega
        have hvl : v < w5.heap.size := HV.out.glt
        have hul : u < w5.heap.size := Nat.lt_of_lt_of_le HW.out.glt HN5.out.size
        go_loopw [28] (fun i wr2 => ∃ j : Nat, j ≤ 1024 ∧ i = .int .i64 j ∧ Hid (WF wr2 u (fun i => if i < j then wordN (joinN 2 C B1) i else wordN C i)) ∧ Hid (Fr (One u) w5 wr2)) (fun i _ => 1024 - (intOf i).toNat)
        case atStart => exact ⟨0, Nat.zero_le _, rfl, Lib.hid ((HW.out.nw HN5.out).same (fun i hi => by rw [if_neg (by omega)])), Lib.hid (Fr.refl _ _)⟩
        case round =>
          obtain ⟨j, hj, rfl, HWj, HFj⟩ := hrel
          by_cases hlj : j < 1024
          · have hij : (j : Int) < 1024 := by omega
            have hcu := HWj.out.cell hlj
            have hcv := (HV.out.keep (W1 := wr) (fun cs hb => HFj.out.blk hb (One.ne (fun e => huv e.symm)))).cell hlj
            have hfz := HWj.out.frozen j
            simp only [if_neg (Nat.lt_irrefl j)] at hcu
            have HO := Lib.hid (fun W => less1_calls (wordN C j) (wordN B1 j) W (wordN_lt _ _) (wordN_lt _ _))
            rw [← join_word] at HO
            obtain ⟨x, hx⟩ : ∃ x, x = wordN C j := ⟨_, rfl⟩
            obtain ⟨y, hy⟩ : ∃ y, y = wordN B1 j := ⟨_, rfl⟩
            obtain ⟨z, hz⟩ : ∃ z, z = wordN (joinN 2 C B1) j := ⟨_, rfl⟩
            rw [← hx] at hcu HO
            rw [← hy] at hcv HO
            rw [← hz] at HO
            have HZ := Lib.hid hz
            clear hx hy hz
            go_wp2_with (go_at_call 59; refine (HO.out _).mono ?_; rintro e w6 ⟨rfl, rfl⟩)
            go_roundw
            case rel => exact ⟨j + 1, by omega, by go_num, Lib.hid (HWj.out.put (by rw [if_pos (Nat.lt_succ_self j), HZ.out]) (fun i hi => by by_cases h : i < j; rw [if_pos (by omega), if_pos h]; rw [if_neg (by omega), if_neg h])), Lib.hid (HFj.out.set (One.self u) j _)⟩
            case measure => simp [intOf]; omega
          · have hij : ¬ (j : Int) < 1024 := by omega
            have HJ : Hid (j = 1024) := Lib.hid (by omega)
            clear hlj
            go_wp2
            go_roundw
            case rel => exact ⟨k + 1, by omega, by go_num, Lib.hid (by rw [HSn.out]; exact HWj.out.same (fun i hi => by rw [if_pos (by rw [HJ.out]; exact hi)])), Lib.hid ((HN.out.trans HN5.out).trans_new HFj.out hu)⟩
            case measure => simp [intOf]; omega
      · have hi : ¬ (k : Int) < ((M - 1 : Nat) : Int) := by omega
        have HE : Hid (rs.take (k + 1) = rs) := Lib.hid (List.take_of_length_le (by have := HMl.out; omega))
        rw [HE.out] at HW
        have HL := Lib.hid (foldJ_lt (op := 2) (D := 64 * 1024) rs (fun r hr => by
          obtain ⟨i, hi, rfl⟩ := List.getElem_of_mem hr
          exact (HP.out i hi).2.2))
        obtain ⟨J, hJ⟩ : ∃ J, J = foldJ 2 rs := ⟨_, rfl⟩
        rw [← hJ] at HW HL
        have HJ := Lib.hid hJ
        clear hJ hlt
        go_wp2_with (go_at_call 53; refine (bm_of (some ⟨u, 0, none⟩) c J _ HL.out (HW.out.reads rfl)).mono ?_; rintro e w7 ⟨b7, p7, q7, rfl, hb7, hM7, hN7⟩; have HM7 := Lib.hid hM7; have HN7 := Lib.hid hN7; have HB7 := Lib.hid hb7; clear hM7 hN7 hb7)
        go_ret
        have h7 := HB7.out
        have hs := HN.out.size
        exact ⟨b7, p7, q7, rfl, ⟨by omega, by omega, by omega⟩, by rw [← HJ.out]; exact HM7.out, HN.out.trans HN7.out⟩
set_option maxRecDepth 100000 in
set_option maxHeartbeats 4000000 in
theorem joined_xor (g M cap : Nat) (rs : List JB) (w : World) (hM : rs.length = M) (h0 : 2 ≤ M) (hMm : M ≤ 1000) (hcap : M ≤ cap) (hP : PB w g rs) :
    Calls Tryd.prog 56 #[.slice (some ⟨g, 0, none⟩) M cap, .func (.func 60) #[] #[]] w fun e w' => ∃ b p q, e = .returned (.pointer (some ⟨b, 0, none⟩)) ∧ (w.heap.size ≤ b ∧ w.heap.size ≤ p ∧ w.heap.size ≤ q) ∧ BM w' b p q (foldJ 3 rs) ∧ Nw w w' := by
  have HP := Lib.hid hP
  have HMl := Lib.hid hM
  obtain ⟨hc, hb, hlt0⟩ := hP 0 (by omega)
  clear hlt0
  have hf0 : foldJ 3 (rs.take 1) = (rs[0]'(by omega)).B := by
    cases rs with
    | nil => simp at hM; omega
    | cons r t => rfl
  obtain ⟨⟨P0, p0, q0, B0⟩, hr0⟩ : ∃ r, r = rs[0]'(by omega) := ⟨_, rfl⟩
  rw [← hr0] at hc hb hf0
  simp only at hc hb hf0
  have HW0 := Lib.hid (bm_words P0 p0 q0 B0 w hb)
  have HF0 := Lib.hid hf0
  clear hP hM hb hr0 hf0
  have e0 : ((M : Int) == 0) = false := by simp; omega
  have h1 : (1 : Int) ≤ (M : Int) := by omega
  have e1 : (M : Int) - 1 = ((M - 1 : Nat) : Int) := by omega
  have hi0 : (0 : Int) < (M : Int) := by omega
  have hcap1 : ¬ cap = 1 := by omega
  go_enter Tryd.func56, Tryd.ntmps56
  go_wp2_with (go_at_call 43; refine HW0.out.mono ?_; rintro e w1 ⟨u, c, rfl, hu, hF, hN⟩; have HF := Lib.hid hF; have HN := Lib.hid hN; clear hF hN)
  have hug : u < w1.heap.size := HF.out.glt
  · go_loopw [21] (fun i wr => ∃ k : Nat, k ≤ M - 1 ∧ i = .int .i64 k ∧ Hid (WF wr u (wordN (foldJ 3 (rs.take (k + 1))))) ∧ Hid (Nw w wr)) (fun i _ => M - (intOf i).toNat)
    case atStart => exact ⟨0, Nat.zero_le _, rfl, Lib.hid (by rw [HF0.out]; exact HF.out), HN⟩
    case round =>
      obtain ⟨k, hk, rfl, HW, HN⟩ := hrel
      by_cases hlt : k < M - 1
      · have hi : (k : Int) < ((M - 1 : Nat) : Int) := by omega
        obtain ⟨hc, hb, hbl⟩ := (HP.out.nw HN.out) (k + 1) (by have := HMl.out; omega)
        have HSn := Lib.hid (foldJ_snoc 3 rs (k + 1) (by omega) (by have := HMl.out; omega))
        have hgB : ∀ i, i < 1024 → wordN (rs[k + 1]'(by have := HMl.out; omega)).B i < 18446744073709551616 := fun i _ => wordN_lt _ _
        obtain ⟨⟨P1, p1, q1, B1⟩, hr1⟩ : ∃ r, r = rs[k + 1]'(by have := HMl.out; omega) := ⟨_, rfl⟩
        rw [← hr1] at hc hb HSn
        simp only at hc hb HSn
        have HW1 := Lib.hid (bm_words P1 p1 q1 B1 _ hb)
        obtain ⟨C, hC⟩ : ∃ C, C = foldJ 3 (rs.take (k + 1)) := ⟨_, rfl⟩
        rw [← hC] at HW HSn
        have HBt := Lib.hid (HP.out.nw HN.out)
        clear hb hbl hgB hr1 hC
        have hc' : wr.cell? ⟨g, 1 + k, none⟩ = some (.pointer P1) := by rw [Nat.add_comm]; exact hc
        go_wp2_with (go_at_call 43; refine HW1.out.mono ?_; rintro e w5 ⟨v, c5, rfl, hv, hF, hN5⟩; have HV := Lib.hid hF; have HN5 := Lib.hid hN5; clear hF hN5)
        have huv : u ≠ v := by have := HW.out.glt; omega
        have hvl : v < w5.heap.size := HV.out.glt
        have hul : u < w5.heap.size := Nat.lt_of_lt_of_le HW.out.glt HN5.out.size
        go_loopw [28] (fun i wr2 => ∃ j : Nat, j ≤ 1024 ∧ i = .int .i64 j ∧ Hid (WF wr2 u (fun i => if i < j then wordN (joinN 3 C B1) i else wordN C i)) ∧ Hid (Fr (One u) w5 wr2)) (fun i _ => 1024 - (intOf i).toNat)
        case atStart => exact ⟨0, Nat.zero_le _, rfl, Lib.hid ((HW.out.nw HN5.out).same (fun i hi => by rw [if_neg (by omega)])), Lib.hid (Fr.refl _ _)⟩
        case round =>
          obtain ⟨j, hj, rfl, HWj, HFj⟩ := hrel
          by_cases hlj : j < 1024
          · have hij : (j : Int) < 1024 := by omega
            have hcu := HWj.out.cell hlj
            have hcv := (HV.out.keep (W1 := wr) (fun cs hb => HFj.out.blk hb (One.ne (fun e => huv e.symm)))).cell hlj
            have hfz := HWj.out.frozen j
            simp only [if_neg (Nat.lt_irrefl j)] at hcu
            have HO := Lib.hid (fun W => xor1_calls (wordN C j) (wordN B1 j) W (wordN_lt _ _) (wordN_lt _ _))
            rw [← join_word] at HO
            obtain ⟨x, hx⟩ : ∃ x, x = wordN C j := ⟨_, rfl⟩
            obtain ⟨y, hy⟩ : ∃ y, y = wordN B1 j := ⟨_, rfl⟩
            obtain ⟨z, hz⟩ : ∃ z, z = wordN (joinN 3 C B1) j := ⟨_, rfl⟩
            rw [← hx] at hcu HO
            rw [← hy] at hcv HO
            rw [← hz] at HO
            have HZ := Lib.hid hz
            clear hx hy hz
            go_wp2_with (go_at_call 60; refine (HO.out _).mono ?_; rintro e w6 ⟨rfl, rfl⟩)
            go_roundw
            case rel => exact ⟨j + 1, by omega, by go_num, Lib.hid (HWj.out.put (by rw [if_pos (Nat.lt_succ_self j), HZ.out]) (fun i hi => by by_cases h : i < j; rw [if_pos (by omega), if_pos h]; rw [if_neg (by omega), if_neg h])), Lib.hid (HFj.out.set (One.self u) j _)⟩
            case measure => simp [intOf]; omega
          · have hij : ¬ (j : Int) < 1024 := by omega
            have HJ : Hid (j = 1024) := Lib.hid (by omega)
            clear hlj
            go_wp2
            go_roundw
            case rel => exact ⟨k + 1, by omega, by go_num, Lib.hid (by rw [HSn.out]; exact HWj.out.same (fun i hi => by rw [if_pos (by rw [HJ.out]; exact hi)])), Lib.hid ((HN.out.trans HN5.out).trans_new HFj.out hu)⟩
            case measure => simp [intOf]; omega
      · have hi : ¬ (k : Int) < ((M - 1 : Nat) : Int) := by omega
        have HE : Hid (rs.take (k + 1) = rs) := Lib.hid (List.take_of_length_le (by have := HMl.out; omega))
        rw [HE.out] at HW
        have HL := Lib.hid (foldJ_lt (op := 3) (D := 64 * 1024) rs (fun r hr => by
          obtain ⟨i, hi, rfl⟩ := List.getElem_of_mem hr
          exact (HP.out i hi).2.2))
        obtain ⟨J, hJ⟩ : ∃ J, J = foldJ 3 rs := ⟨_, rfl⟩
        rw [← hJ] at HW HL
        have HJ := Lib.hid hJ
        clear hJ hlt
        go_wp2_with (go_at_call 53; refine (bm_of (some ⟨u, 0, none⟩) c J _ HL.out (HW.out.reads rfl)).mono ?_; rintro e w7 ⟨b7, p7, q7, rfl, hb7, hM7, hN7⟩; have HM7 := Lib.hid hM7; have HN7 := Lib.hid hN7; have HB7 := Lib.hid hb7; clear hM7 hN7 hb7)
        go_ret
        have h7 := HB7.out
        have hs := HN.out.size
        exact ⟨b7, p7, q7, rfl, ⟨by omega, by omega, by omega⟩, by rw [← HJ.out]; exact HM7.out, HN.out.trans HN7.out⟩

set_option maxHeartbeats 1000000 in
theorem bm_or (g M cap : Nat) (rs : List JB) (w : World) (hM : rs.length = M) (h0 : 2 ≤ M) (hMm : M ≤ 1000) (hcap : M ≤ cap) (hP : PB w g rs) :
    Calls Tryd.prog 34 #[.slice (some ⟨g, 0, none⟩) M cap] w fun e w' => ∃ b p q, e = .returned (.pointer (some ⟨b, 0, none⟩)) ∧ (w.heap.size ≤ b ∧ w.heap.size ≤ p ∧ w.heap.size ≤ q) ∧ BM w' b p q (foldJ 0 rs) ∧ Nw w w' := by
  have HX := Lib.hid (joined_or g M cap rs w hM h0 hMm hcap hP)
  clear hM h0 hMm hcap hP
  go_enter Tryd.func34, Tryd.ntmps34
  go_wp2_with (go_at_call 56; refine HX.out.mono ?_; rintro e w7 ⟨b7, p7, q7, rfl, hb7, hM7, hN7⟩; have HM7 := Lib.hid hM7; have HN7 := Lib.hid hN7; have HB7 := Lib.hid hb7; clear hM7 hN7 hb7)
  go_ret
  exact ⟨b7, p7, q7, rfl, HB7.out, HM7.out, HN7.out⟩
set_option maxHeartbeats 1000000 in
theorem bm_or_none (w : World) :
    Calls Tryd.prog 34 #[.slice none 0 0] w fun e w' => ∃ b p q, e = .returned (.pointer (some ⟨b, 0, none⟩)) ∧ (w.heap.size ≤ b ∧ w.heap.size ≤ p ∧ w.heap.size ≤ q) ∧ BM w' b p q 0 ∧ Nw w w' := by
  have HX : Hid (Calls Tryd.prog 56 #[.slice none 0 0, .func (.func 57) #[] #[]] w fun e w' => ∃ b p q, e = .returned (.pointer (some ⟨b, 0, none⟩)) ∧ (w.heap.size ≤ b ∧ w.heap.size ≤ p ∧ w.heap.size ≤ q) ∧ BM w' b p q 0 ∧ Nw w w') := Lib.hid (by
    go_enter Tryd.func56, Tryd.ntmps56
    go_wp2_with (go_at_call 39; refine (bm_new _).mono ?_; rintro e w7 ⟨b7, p7, q7, rfl, hb7, hM7, hN7⟩; have HM7 := Lib.hid hM7; have HN7 := Lib.hid hN7; have HB7 := Lib.hid hb7; clear hM7 hN7 hb7)
    go_ret
    exact ⟨b7, p7, q7, rfl, HB7.out, HM7.out, HN7.out⟩)
  go_enter Tryd.func34, Tryd.ntmps34
  go_wp2_with (go_at_call 56; refine HX.out.mono ?_; rintro e w7 ⟨b7, p7, q7, rfl, hb7, hM7, hN7⟩; have HM7 := Lib.hid hM7; have HN7 := Lib.hid hN7; have HB7 := Lib.hid hb7; clear hM7 hN7 hb7)
  go_ret
  exact ⟨b7, p7, q7, rfl, HB7.out, HM7.out, HN7.out⟩
set_option maxHeartbeats 1000000 in
theorem bm_and (g M cap : Nat) (rs : List JB) (w : World) (hM : rs.length = M) (h0 : 2 ≤ M) (hMm : M ≤ 1000) (hcap : M ≤ cap) (hP : PB w g rs) :
    Calls Tryd.prog 36 #[.slice (some ⟨g, 0, none⟩) M cap] w fun e w' => ∃ b p q, e = .returned (.pointer (some ⟨b, 0, none⟩)) ∧ (w.heap.size ≤ b ∧ w.heap.size ≤ p ∧ w.heap.size ≤ q) ∧ BM w' b p q (foldJ 1 rs) ∧ Nw w w' := by
  have HX := Lib.hid (joined_and g M cap rs w hM h0 hMm hcap hP)
  clear hM h0 hMm hcap hP
  go_enter Tryd.func36, Tryd.ntmps36
  go_wp2_with (go_at_call 56; refine HX.out.mono ?_; rintro e w7 ⟨b7, p7, q7, rfl, hb7, hM7, hN7⟩; have HM7 := Lib.hid hM7; have HN7 := Lib.hid hN7; have HB7 := Lib.hid hb7; clear hM7 hN7 hb7)
  go_ret
  exact ⟨b7, p7, q7, rfl, HB7.out, HM7.out, HN7.out⟩
set_option maxHeartbeats 1000000 in
theorem bm_and_none (w : World) :
    Calls Tryd.prog 36 #[.slice none 0 0] w fun e w' => ∃ b p q, e = .returned (.pointer (some ⟨b, 0, none⟩)) ∧ (w.heap.size ≤ b ∧ w.heap.size ≤ p ∧ w.heap.size ≤ q) ∧ BM w' b p q 0 ∧ Nw w w' := by
  have HX : Hid (Calls Tryd.prog 56 #[.slice none 0 0, .func (.func 58) #[] #[]] w fun e w' => ∃ b p q, e = .returned (.pointer (some ⟨b, 0, none⟩)) ∧ (w.heap.size ≤ b ∧ w.heap.size ≤ p ∧ w.heap.size ≤ q) ∧ BM w' b p q 0 ∧ Nw w w') := Lib.hid (by
    go_enter Tryd.func56, Tryd.ntmps56
    go_wp2_with (go_at_call 39; refine (bm_new _).mono ?_; rintro e w7 ⟨b7, p7, q7, rfl, hb7, hM7, hN7⟩; have HM7 := Lib.hid hM7; have HN7 := Lib.hid hN7; have HB7 := Lib.hid hb7; clear hM7 hN7 hb7)
    go_ret
    exact ⟨b7, p7, q7, rfl, HB7.out, HM7.out, HN7.out⟩)
  go_enter Tryd.func36, Tryd.ntmps36
  go_wp2_with (go_at_call 56; refine HX.out.mono ?_; rintro e w7 ⟨b7, p7, q7, rfl, hb7, hM7, hN7⟩; have HM7 := Lib.hid hM7; have HN7 := Lib.hid hN7; have HB7 := Lib.hid hb7; clear hM7 hN7 hb7)
  go_ret
  exact ⟨b7, p7, q7, rfl, HB7.out, HM7.out, HN7.out⟩
set_option maxHeartbeats 1000000 in
theorem bm_less (P1 P2 : Option Addr) (p1 q1 B1 p2 q2 B2 : Nat) (w : World) (h1 : BP w P1 p1 q1 B1) (h2 : BP w P2 p2 q2 B2) (hB1 : B1 < 2 ^ (64 * 1024)) (hB2 : B2 < 2 ^ (64 * 1024)) :
    Calls Tryd.prog 37 #[.pointer P1, .pointer P2] w fun e w' => ∃ b p q, e = .returned (.pointer (some ⟨b, 0, none⟩)) ∧ (w.heap.size ≤ b ∧ w.heap.size ≤ p ∧ w.heap.size ≤ q) ∧ BM w' b p q (joinN 2 B1 B2) ∧ Nw w w' := by
  have hN : Nw w (w.alloc (.cells #[.pointer P1, .pointer P2] 25)) := (Fr.refl _ _).alloc _
  have hb := blk_new w (.cells #[.pointer P1, .pointer P2] 25)
  have HX := Lib.hid (joined_less w.heap.size 2 2 [⟨P1, p1, q1, B1⟩, ⟨P2, p2, q2, B2⟩] _ rfl (Nat.le_refl _) (by omega) (Nat.le_refl _) (fun k hk => by
    rcases (by simp at hk; omega : k = 0 ∨ k = 1) with rfl | rfl
    · exact ⟨blk_cell hb 0, h1.nw hN, hB1⟩
    · exact ⟨blk_cell hb 1, h2.nw hN, hB2⟩))
  have HN := Lib.hid hN
  clear hN hb h1 h2 hB1 hB2
  go_enter Tryd.func37, Tryd.ntmps37
  go_wp2_with (go_at_call 56; refine HX.out.mono ?_; rintro e w7 ⟨b7, p7, q7, rfl, hb7, hM7, hN7⟩; have HM7 := Lib.hid hM7; have HN7 := Lib.hid hN7; have HB7 := Lib.hid hb7; clear hM7 hN7 hb7)
  go_ret
  have h7 := HB7.out
  have hs := HN.out.size
  exact ⟨b7, p7, q7, rfl, ⟨by omega, by omega, by omega⟩, HM7.out, HN.out.trans HN7.out⟩
set_option maxHeartbeats 1000000 in
theorem bm_xor (P1 P2 : Option Addr) (p1 q1 B1 p2 q2 B2 : Nat) (w : World) (h1 : BP w P1 p1 q1 B1) (h2 : BP w P2 p2 q2 B2) (hB1 : B1 < 2 ^ (64 * 1024)) (hB2 : B2 < 2 ^ (64 * 1024)) :
    Calls Tryd.prog 38 #[.pointer P1, .pointer P2] w fun e w' => ∃ b p q, e = .returned (.pointer (some ⟨b, 0, none⟩)) ∧ (w.heap.size ≤ b ∧ w.heap.size ≤ p ∧ w.heap.size ≤ q) ∧ BM w' b p q (joinN 3 B1 B2) ∧ Nw w w' := by
  have hN : Nw w (w.alloc (.cells #[.pointer P1, .pointer P2] 25)) := (Fr.refl _ _).alloc _
  have hb := blk_new w (.cells #[.pointer P1, .pointer P2] 25)
  have HX := Lib.hid (joined_xor w.heap.size 2 2 [⟨P1, p1, q1, B1⟩, ⟨P2, p2, q2, B2⟩] _ rfl (Nat.le_refl _) (by omega) (Nat.le_refl _) (fun k hk => by
    rcases (by simp at hk; omega : k = 0 ∨ k = 1) with rfl | rfl
    · exact ⟨blk_cell hb 0, h1.nw hN, hB1⟩
    · exact ⟨blk_cell hb 1, h2.nw hN, hB2⟩))
  have HN := Lib.hid hN
  clear hN hb h1 h2 hB1 hB2
  go_enter Tryd.func38, Tryd.ntmps38
  go_wp2_with (go_at_call 56; refine HX.out.mono ?_; rintro e w7 ⟨b7, p7, q7, rfl, hb7, hM7, hN7⟩; have HM7 := Lib.hid hM7; have HN7 := Lib.hid hN7; have HB7 := Lib.hid hb7; clear hM7 hN7 hb7)
  go_ret
  have h7 := HB7.out
  have hs := HN.out.size
  exact ⟨b7, p7, q7, rfl, ⟨by omega, by omega, by omega⟩, HM7.out, HN.out.trans HN7.out⟩

/-! ### a nil one -/
theorem nil_has (v : Int) (w : World) : Calls Tryd.prog 21 #[.pointer none, .int .u16 v] w fun e w' => e = .returned (.bool false) ∧ w = w' := by
  go_enter Tryd.func21, Tryd.ntmps21
  go_wp2
  go_ret
  exact ⟨rfl, rfl⟩
theorem nil_add (v : Int) (w : World) : Calls Tryd.prog 32 #[.pointer none, .int .u16 v] w fun e w' => e = .returned (.bool false) ∧ w = w' := by
  go_enter Tryd.func32, Tryd.ntmps32
  go_wp2
  go_ret
  exact ⟨rfl, rfl⟩
theorem nil_drop (v : Int) (w : World) : Calls Tryd.prog 33 #[.pointer none, .int .u16 v] w fun e w' => e = .returned (.bool false) ∧ w = w' := by
  go_enter Tryd.func33, Tryd.ntmps33
  go_wp2
  go_ret
  exact ⟨rfl, rfl⟩
theorem nil_fill (v u : Int) (w : World) : Calls Tryd.prog 23 #[.pointer none, .int .u16 v, .int .u16 u] w fun e w' => e = .returned (.int .i64 0) ∧ w = w' := by
  go_enter Tryd.func23, Tryd.ntmps23
  go_wp2
  go_ret
  exact ⟨rfl, rfl⟩
theorem nil_wipe (v u : Int) (w : World) : Calls Tryd.prog 22 #[.pointer none, .int .u16 v, .int .u16 u] w fun e w' => e = .returned (.int .i64 0) ∧ w = w' := by
  go_enter Tryd.func22, Tryd.ntmps22
  go_wp2
  go_ret
  exact ⟨rfl, rfl⟩
theorem nil_len  (w : World) : Calls Tryd.prog 15 #[.pointer none] w fun e w' => e = .returned (.int .i64 0) ∧ w = w' := by
  go_enter Tryd.func15, Tryd.ntmps15
  go_wp2
  go_ret
  exact ⟨rfl, rfl⟩
theorem nil_rank (v : Int) (w : World) : Calls Tryd.prog 20 #[.pointer none, .int .u16 v] w fun e w' => e = .returned (.int .i64 0) ∧ w = w' := by
  go_enter Tryd.func20, Tryd.ntmps20
  go_wp2
  go_ret
  exact ⟨rfl, rfl⟩
theorem nil_next (v : Int) (w : World) : Calls Tryd.prog 26 #[.pointer none, .int .u16 v] w fun e w' => e = .returned (.tuple #[.int .u16 0, .bool false]) ∧ w = w' := by
  go_enter Tryd.func26, Tryd.ntmps26
  go_wp2
  go_ret2
  exact ⟨rfl, rfl⟩
theorem nil_prev (v : Int) (w : World) : Calls Tryd.prog 28 #[.pointer none, .int .u16 v] w fun e w' => e = .returned (.tuple #[.int .u16 0, .bool false]) ∧ w = w' := by
  go_enter Tryd.func28, Tryd.ntmps28
  go_wp2
  go_ret2
  exact ⟨rfl, rfl⟩
theorem nil_select (v : Int) (w : World) : Calls Tryd.prog 19 #[.pointer none, .int .i64 v] w fun e w' => e = .returned (.tuple #[.int .u16 0, .bool false]) ∧ w = w' := by
  go_enter Tryd.func19, Tryd.ntmps19
  go_wp2
  go_ret2
  exact ⟨rfl, rfl⟩

end Go.Proofs.YtiekoidlibhoeaaDoor
