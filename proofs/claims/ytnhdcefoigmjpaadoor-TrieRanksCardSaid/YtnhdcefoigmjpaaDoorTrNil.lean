/-
  The contracts of a nil trie; and of New at a limit that there can't be.
-/
import Derived.Test.YtnhdcefoigmjpaaDoorTrH

namespace Go.Proofs.YtnhdcefoigmjpaaDoor
open Go.RowKit Go.Shelf Go.Proofs.YtnhdcefoigmjpaaDoorW.PrintWords Go.Proofs.YtnhdcefoigmjpaaDoorW.PrintMore
attribute [local go_sem] Oper.semAt_some
set_option linter.unusedVariables false
set_option linter.unusedSimpArgs false

theorem nstart (w : World) : Calls Tryd.prog 40 #[.pointer none] w fun e w' => e = .returned (.bool false) ∧ w = w' := by
  go_enter Tryd.func40, Tryd.ntmps40
  go_wp2
  go_ret
  exact ⟨rfl, rfl⟩
set_option maxHeartbeats 1000000 in
theorem nfirst (w : World) : Calls Tryd.prog 65 #[.pointer none] w fun e w' => e = .returned (.tuple #[.agg #[.int .u64 0, .slice none 0 0, .int .i64 0, .int .u64 0, .int .u64 0], .bool false]) ∧ Nw w w' := by
  go_enter Tryd.func65, Tryd.ntmps65
  go_wp2_with (go_at_call 40; refine (nstart _).mono ?_; rintro e w' ⟨rfl, rfl⟩)
  refine bodyPost_ret (by simp [results, Tryd.results65, go_sem]; try rfl) rfl ?_
  exact ⟨rfl, (Fr.refl _ _).alloc _⟩
set_option maxHeartbeats 1000000 in
theorem nmin (w : World) : Calls Tryd.prog 27 #[.pointer none] w fun e w' => e = .returned (.tuple #[.int .u64 0, .bool false]) ∧ Nw w w' := by
  go_enter Tryd.func27, Tryd.ntmps27
  go_wp2_with (go_at_call 65; refine (nfirst _).mono ?_; rintro e w1 ⟨rfl, hf⟩; have HF := Lib.hid hf; clear hf)
  go_returns
  exact ⟨rfl, HF.out.alloc _⟩
set_option maxHeartbeats 1000000 in
theorem nmax (w : World) : Calls Tryd.prog 28 #[.pointer none] w fun e w' => e = .returned (.tuple #[.int .u64 0, .bool false]) ∧ Nw w w' := by
  go_enter Tryd.func28, Tryd.ntmps28
  go_wp2_with (go_at_call 65; refine (nfirst _).mono ?_; rintro e w1 ⟨rfl, hf⟩; have HF := Lib.hid hf; clear hf)
  go_returns
  exact ⟨rfl, HF.out.alloc _⟩
set_option maxHeartbeats 1000000 in
theorem nnext (k : Nat) (w : World) : Calls Tryd.prog 14 #[.pointer none, .int .u64 k] w fun e w' => e = .returned (.tuple #[.int .u64 0, .bool false]) ∧ w = w' := by
  go_enter Tryd.func14, Tryd.ntmps14
  go_wp2_with (go_at_call 40; refine (nstart _).mono ?_; rintro e w' ⟨rfl, rfl⟩)
  go_returns
  exact ⟨rfl, rfl⟩
set_option maxHeartbeats 1000000 in
theorem nprev (k : Nat) (w : World) : Calls Tryd.prog 15 #[.pointer none, .int .u64 k] w fun e w' => e = .returned (.tuple #[.int .u64 0, .bool false]) ∧ w = w' := by
  go_enter Tryd.func15, Tryd.ntmps15
  go_wp2_with (go_at_call 40; refine (nstart _).mono ?_; rintro e w' ⟨rfl, rfl⟩)
  go_returns
  exact ⟨rfl, rfl⟩
theorem nhas (k : Nat) (w : World) : Calls Tryd.prog 26 #[.pointer none, .int .u64 k] w fun e w' => e = .returned (.bool false) ∧ w = w' := by
  go_enter Tryd.func26, Tryd.ntmps26
  go_wp2_with (go_at_call 40; refine (nstart _).mono ?_; rintro e w' ⟨rfl, rfl⟩)
  go_ret
  exact ⟨rfl, rfl⟩
theorem nins (k : Nat) (w : World) : Calls Tryd.prog 23 #[.pointer none, .int .u64 k] w fun e w' => e = .returned (.int .i64 3) ∧ w = w' := by
  go_enter Tryd.func23, Tryd.ntmps23
  go_wp2
  go_ret
  exact ⟨rfl, rfl⟩
theorem ndel (k : Nat) (w : World) : Calls Tryd.prog 25 #[.pointer none, .int .u64 k] w fun e w' => e = .returned (.int .i64 3) ∧ w = w' := by
  go_enter Tryd.func25, Tryd.ntmps25
  go_wp2
  go_ret
  exact ⟨rfl, rfl⟩
theorem nlen (w : World) : Calls Tryd.prog 30 #[.pointer none] w fun e w' => e = .returned (.int .i64 0) ∧ w = w' := by
  go_enter Tryd.func30, Tryd.ntmps30
  go_wp2
  go_ret
  exact ⟨rfl, rfl⟩
theorem nused (w : World) : Calls Tryd.prog 19 #[.pointer none] w fun e w' => e = .returned (.int .i64 0) ∧ w = w' := by
  go_enter Tryd.func19, Tryd.ntmps19
  go_wp2
  go_ret
  exact ⟨rfl, rfl⟩
theorem nlimit (w : World) : Calls Tryd.prog 31 #[.pointer none] w fun e w' => e = .returned (.int .i64 0) ∧ w = w' := by
  go_enter Tryd.func31, Tryd.ntmps31
  go_wp2
  go_ret
  exact ⟨rfl, rfl⟩
theorem nclear (w : World) : Calls Tryd.prog 29 #[.pointer none] w fun e w' => e = .returned (.tuple #[]) ∧ w = w' := by
  go_enter Tryd.func29, Tryd.ntmps29
  go_wp2
  go_end0
  exact ⟨rfl, rfl⟩
theorem nrank (k : Nat) (w : World) : Calls Tryd.prog 22 #[.pointer none, .int .u64 k] w fun e w' => e = .returned (.int .i64 0) ∧ w = w' := by
  go_enter Tryd.func22, Tryd.ntmps22
  go_wp2_with (go_at_call 40; refine (nstart _).mono ?_; rintro e w' ⟨rfl, rfl⟩)
  go_ret
  exact ⟨rfl, rfl⟩
theorem nselect (i : Int) (w : World) : Calls Tryd.prog 21 #[.pointer none, .int .i64 i] w fun e w' => e = .returned (.tuple #[.int .u64 0, .bool false]) ∧ w = w' := by
  go_enter Tryd.func21, Tryd.ntmps21
  go_wp2_with (go_at_call 40; refine (nstart _).mono ?_; rintro e w' ⟨rfl, rfl⟩)
  go_returns
  exact ⟨rfl, rfl⟩
set_option maxHeartbeats 1000000 in
theorem neach (ks : List Nat) (A : Option Addr) (c : Nat) (w : World) (hR : Kd.R (Kd.int .u64) 31 w 0 (fun _ => True) (.slice A ks.length c) (keysI ks)) (hlen : ks.length ≤ 1000000) :
    Calls Tryd.prog 13 #[.pointer none, .slice A ks.length c] w fun e w' => e = .returned (.int .i64 0) ∧ w = w' := by
  have HR := Lib.hid hR
  clear hR
  go_enter Tryd.func13, Tryd.ntmps13
  go_wp2
  go_loopw [5, 7, 10, 16, 17, 21] (fun nv _ iv _ _ _ wr => ∃ i : Nat, i ≤ ks.length ∧ nv = .int .i64 0 ∧ iv = .int .i64 i ∧ Hid (w = wr)) (fun _ _ iv _ _ _ _ => ks.length - (intOf iv).toNat)
  case atStart => exact ⟨0, by omega, rfl, rfl, Lib.hid rfl⟩
  case round =>
    obtain ⟨i, hi, rfl, rfl, HW⟩ := hrel
    have hR2 := HR.out
    rw [HW.out] at hR2
    by_cases hlt : i < ks.length
    · obtain ⟨x, hx⟩ : ∃ x, ks[i]? = some x := ⟨_, List.getElem?_eq_getElem hlt⟩
      obtain ⟨g, hA, hcx⟩ := R_key hR2 hx
      subst hA
      clear hx hR2
      go_wp2_with (go_at_call 23; refine (nins x _).mono ?_; rintro e w2 ⟨rfl, rfl⟩)
      go_roundw
      case rel => exact ⟨i + 1, by omega, rfl, by go_num, HW⟩
      case measure => simp [intOf]; omega
    · go_wp2
      go_ret
      exact ⟨rfl, HW.out⟩
/-! ### the law's all at a nil trie -/
set_option maxRecDepth 100000 in
set_option maxHeartbeats 1000000 in
theorem nall_stops (n : Nat) (hn : 1 ≤ n) (Bn : Nat) (Kp : World → World → Prop) (w : World) (hBl : Bn < w.heap.size) (hBn : w.cell? ⟨Bn, 0, none⟩ = some (.pointer none)) :
    SeqM Fence.wide n Tryd.prog 84 #[.pointer (some ⟨Bn, 0, none⟩)] (fun y : Nat => #[Value.int .u64 (y : Nat)]) (fun A B => Nw A B) Kp (fun ys => ys = []) (fun _ => False) 0 w := fun lp J Jx W hW hJ hY h0 => by
  have hc := (hW.cell (p := ⟨Bn, 0, none⟩) hBl).trans hBn
  have HJ := Lib.hid (fun W' (hf : Nw W W') => hJ [] W W' h0 hf)
  clear hJ hY h0
  refine callsIn_of_wp Tryd.func84 rfl trivial ?_ rfl
  simp only [Tryd.ntmps84, List.size_toArray, List.length_cons, List.length_nil, Nat.reduceAdd, Nat.reduceSub, Array.replicate_succ, Array.replicate_zero, List.push_toArray, List.append_toArray, List.nil_append, List.cons_append]
  gi_wp2_with (refine ⟨trivial, ?_⟩; gi_at_call 27; refine (callsIn_wide.2 (nmin _)).mono ?_; rintro e W1 ⟨rfl, hf⟩; have HF := Lib.hid hf; clear hf)
  gi_loopw [3, 4] (fun kv okv wr => okv = .bool false ∧ Hid (Nw W wr)) (fun _ _ _ => 0)
  case atStart => exact ⟨rfl, HF⟩
  case round =>
    obtain ⟨rfl, HFr⟩ := hrel
    gi_wp2_with (refine ⟨(by intro f h; cases h), ?_⟩)
    go_end0
    exact ⟨⟨_, rfl⟩, .inl ⟨[], rfl, HJ.out _ HFr.out⟩⟩
theorem ownFrom_nw {β : Type} {B : Nat} {w0 : World} (h1 : w0.heap.size ≤ B) : OwnFrom B (fun (_ : β) W => Nw w0 W) := fun s A C row hf hg hr => by
  have key : ∀ k, k < B → k < A.heap.size → C.heap[k]? = A.heap[k]? := fun k hk hl => hg.block k hl (fun e => by have := (hr k e.symm).1; omega)
  exact ⟨hg.os.trans hf.os, hg.tape.trans hf.tape, hg.output.trans hf.output, Nat.le_trans hf.size hg.size, fun k hk hS => (key k (by omega) (Nat.lt_of_lt_of_le hk hf.size)).trans (hf.block k hk hS)⟩
set_option maxRecDepth 100000 in
set_option maxHeartbeats 4000000 in
theorem nall_calls (k : Nat) (w : World) :
    Calls Tryd.prog 32 #[.pointer none, .int .i64 k] w fun e w' => e = .returned (.slice none 0 0) ∧ Nw w w' := by
  refine (callsIn_wide (n := 3)).1 ?_
  refine callsIn_of_wp_marks Tryd.func32 rfl trivial ?_ rfl
  simp only [Tryd.ntmps32, List.size_toArray, List.length_cons, List.length_nil, Nat.reduceAdd, Nat.reduceSub, Array.replicate_succ, Array.replicate_zero, List.push_toArray, List.append_toArray, List.nil_append, List.cons_append]
  gi_wp2_with (refine ⟨trivial, ?_⟩; gi_at_call 68; refine (callsIn_wide.2 (tallc_calls none _)).mono ?_; rintro e w' ⟨rfl, rfl⟩)
  have bO := Boxed.new (w.alloc (.cells #[.int .i64 k] 3)) 22 (.slice none 0 0)
  have bN := Boxed.new ((w.alloc (.cells #[.int .i64 k] 3)).alloc (.cells #[.slice none 0 0] 22)) 24 (.pointer none)
  simp only [World.size_alloc] at bO bN
  obtain ⟨w0, hw0⟩ : ∃ w0, w0 = (w.alloc (.cells #[.int .i64 k] 3)) := ⟨_, rfl⟩
  have hNw : Nw w w0 := by rw [hw0]; exact Fr.alloc (Fr.refl _ _) _
  have hs0 : w0.heap.size = w.heap.size + 1 := by rw [hw0]; simp
  have hFW : Nw w0 (((w.alloc (.cells #[.int .i64 k] 3)).alloc (.cells #[.slice none 0 0] 22)).alloc (.cells #[.pointer none] 24)) := by rw [hw0]; exact ((Fr.refl _ _).alloc _).alloc _
  have HNW := Lib.hid hNw
  refine wpIn_rangeFunc_seqM rfl (by decide) (gf := 84) (lb := #[.pointer (some ⟨w.heap.size + 1 + 1, 0, none⟩)]) rfl trivial (enters_of Tryd.func84 (by kernel_rfl) rfl)
    (nall_stops _ (by decide) (w.heap.size + 1 + 1) (KpT (w.heap.size + 1) (w.heap.size + 1 + 1)) _ (by simp <;> omega) bN.cell) KpT.trans (KpT.b (by simp <;> omega) (by simp)) (Below.refl _ _) (fun _ => rfl)
    (fun A B q o ht hq ho => ht.blk ho (fun h => h))
    (fun (pre : List Nat) W => Boxed W (w.heap.size + 1) 22 (.slice none 0 0) ∧ Nw w0 W)
    (fun c (pre : List Nat) W => False)
    ?tn
    (OwnFrom.and (Own.from (boxed_own (w.heap.size + 1) 22 (fun _ => Value.slice none 0 0)) _) (ownFrom_nw (by simp <;> omega)))
    (fun c => fun s A C row h _ _ => h.elim)
    ⟨bO.alloc _, hFW⟩
    (fun y => { tmps := #[.pointer none, .int .i64 k, undef, .pointer (some ⟨w.heap.size, 0, none⟩), .slice none 0 0, .pointer (some ⟨w.heap.size + 1, 0, none⟩), .int .u64 (y : Nat), .pointer none, .func (.func 84) #[] #[.pointer (some ⟨w.heap.size + 1 + 1, 0, none⟩)], .int .u64 (y : Nat), undef, undef, undef, undef, undef, undef, undef, undef, undef], defers := [] }) ?assign ?body ?done ?stop
  case tn =>
    rintro ys A B ⟨hv, hF⟩ hT
    exact ⟨hv.kept (grown_of hT none (fun k h => h.elim)) (fun e => by cases e), hF.trans hT⟩
  case assign =>
    intro l y W K hK
    gi_wp2
    exact hK
  case body =>
    intro lp pre y W _ hlt
    exact absurd hlt (by omega)
  case done =>
    rintro D ys W hD hys ⟨hv, hF⟩ hK
    have hD2 : w.heap.size + 1 + 1 + 1 ≤ D := by simpa using hD
    have hfw : Nw w (W.putObj D (.deferred none)) := fr_put (hNw.trans hF) (by omega) _
    have hc := hv.cell
    have HFW := Lib.hid hfw
    clear bO bN hw0 hys hFW hfw hF
    gi_wp2
    refine ⟨by simp, .inl ⟨_, _, rfl, run_takeDeferred hK, ?_⟩⟩
    exact ⟨_, results_tmp rfl _ _ _, rfl, HFW.out⟩
  case stop =>
    intro D c pre W hD hpre
    exact hpre.elim
end Go.Proofs.YtnhdcefoigmjpaaDoor
