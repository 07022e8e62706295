/-
  Merged by merge.py: SeqM TrAll TrAll2 TrTop.
-/
import Derived.RangeFuncNested
import Derived.RangeFuncBound
import Derived.RangeFuncCalls
import Derived.Maps.AppendAt
import Derived.LoopIn
import Derived.LoopNIn
import Derived.Test.YtnhdcefoigmjpaaDoorTrE
import Derived.Test.YtnhdcefoigmjpaaDoorTrD
import Derived.Test.YtnhdcefoigmjpaaDoorTrF
/-
  An iterator that turns memory of its own between the rounds (relation Tn): its contract asks of its caller that the caller's own facts abide Tn; and the law for a range over such an iterator.
-/
namespace Go.Proofs.YtnhdcefoigmjpaaDoor
open Go Go.RowKit

variable {F : Fence} {n : Nat} {P : Program}

/-- The contract: J abides what the iterator does between the rounds. -/
def SeqM {α : Type} (F : Fence) (n : Nat) (P : Program) (g : Nat) (lb : Array Value) (encs : α → Array Value) (Tn Kp : World → World → Prop) (S Sp : List α → Prop) (N : Nat) (w : World) : Prop :=
  ∀ (l : Nat) (J Jx : List α → World → Prop) (W : World), Below w.heap.size w W → (∀ ys A B, J ys A → Tn A B → J ys B) →
    (∀ pre x W1, J pre W1 → pre.length < N → YieldAt F (n - 1) P l (encs x) W1 fun e W' =>
      (e = .returned (.bool true) ∧ J (pre ++ [x]) W' ∧ Kp W1 W') ∨ (e = .returned (.bool false) ∧ Jx (pre ++ [x]) W')) →
    J [] W →
    CallsIn F n P g (#[.func (.yield l) #[] #[]] ++ lb) W fun e W' => (∃ v, e = .returned v) ∧ ((∃ xs, S xs ∧ J xs W') ∨ (∃ pre, Sp pre ∧ Jx pre W'))

theorem keepsFrom_put {B l : Nat} {W : World} {o : Obj} (h : l < B) : KeepsFrom B W (W.putObj l o) :=
  ⟨by simp, fun k o' hk hb _ => (World.putObj_heap_other (by omega)).trans hb⟩
theorem keepsFrom_mono {B C : Nat} {W W' : World} (h : KeepsFrom B W W') (hBC : B ≤ C) : KeepsFrom C W W' := ⟨h.size, fun k o hk => h.same k o (Nat.le_trans hBC hk)⟩
theorem RoundIn.inRound' {F : Fence} {n : Nat} {P : Program} {l l' : Nat} {f : FuncId} {tmps : Array Value} {assign body : Code} {w : World} {R : Ending → World → Prop} (h : RoundIn F n P l f tmps assign body w R) : RoundIn (F.inRound l') n P l f tmps assign body w R := h

theorem wpIn_rangeFunc_seqM {α : Type} {g : Operand} {ps : Array Tmp} {assign body : Code} {Q : Exit → Act → World → Prop} {a : Act} {w : World}
    (hro : F.round = none) (h1 : 1 ≤ n) {gf : Nat} {lb : Array Value} (hg : a.eval g = .func (.func gf) #[] lb) (hFg : F.fn gf) (eg : ∀ args w, (callFunc gf args).run P w = .ok (.enter gf args) w)
    {encs : α → Array Value} {Tn Kp : World → World → Prop} {S Sp : List α → Prop} {N : Nat} {w0 : World} (hseq : SeqM F (n - 1) P gf lb encs Tn Kp S Sp N w0)
    (hKt : ∀ {A B C : World}, Kp A B → Kp B C → Kp A C) (hKb : ∀ (W : World) (l : Nat) (o o' : Obj), w.heap.size ≤ l → W.heap[l]? = some o → o.isCells = false → o.isWalk = false → Kp W (W.putObj l o'))
    (hb0 : Below w0.heap.size w0 w) (hps : ∀ x, (encs x).size = ps.size)
    (hTk : ∀ A B k o, Tn A B → w.heap.size ≤ k → A.heap[k]? = some o → B.heap[k]? = some o) (I : List α → World → Prop) (Ix : Code → List α → World → Prop) (hTI : ∀ ys A B, I ys A → Tn A B → I ys B) (hI : OwnFrom w.heap.size I) (hIx : ∀ c, OwnFrom w.heap.size (Ix c)) (h0 : I [] w) (a₁ : α → Act)
    (hassign : ∀ (l : Nat) (x : α) (W : World) (K : Act → World → Prop), K (a₁ x) W →
      assign.wpIn (F.inRound l) (n - 1 - 1) P (Exit.then K (fun _ _ _ => False)) { tmps := (ps.zip (encs x)).foldl (fun t (p, v) => t.setIfInBounds p v) a.tmps, defers := [] } W)
    (hbody : ∀ (l : Nat) (pre : List α) (x : α) (W : World), I pre W → pre.length < N → body.wpIn (F.inRound l) (n - 1 - 1) P (ownPostG w.heap.size Kp I Ix (pre ++ [x]) W) (a₁ x) W)
    (hdone : ∀ (D : Nat) (xs : List α) (W : World), w.heap.size ≤ D → S xs → I xs W → W.heap[D]? = some (.deferred (some [])) → Q .normal { a with defers := { target := .collected D, args := #[] } :: a.defers } W)
    (hstop : ∀ (D : Nat) (c : Code) (pre : List α) (W : World), w.heap.size ≤ D → Sp pre → Ix c pre W → W.heap[D]? = some (.deferred (some [])) → c.wpIn F n P Q { a with defers := { target := .collected D, args := #[] } :: a.defers } W) :
    (Code.rangeFunc g ps assign body).wpIn F n P Q a w := by
  refine wpIn_rangeFunc fun fn hfn => ?_
  obtain ⟨D, hD⟩ : ∃ D, D = w.heap.size := ⟨_, rfl⟩
  let rec_ : LoopState → Option Code → Loop := fun st pe => { state := st, pending := pe, fn, tmps := a.tmps, params := ps, assign, body, defers := w.heap.size }
  obtain ⟨W1, hW1⟩ : ∃ W1, W1 = (w.alloc (.deferred (some []))).alloc (.loop (rec_ .ready none)) := ⟨_, rfl⟩
  have s1 : W1.heap.size = D + 2 := by rw [hW1, hD]; simp
  have rL : W1.heap[D + 1]? = some (.loop (rec_ .ready none)) := by
    rw [hW1, hD]; have := World.alloc_heap_new (w.alloc (.deferred (some []))) (.loop (rec_ .ready none)); rwa [World.size_alloc] at this
  have rD : W1.heap[D]? = some (.deferred (some [])) := by
    rw [hW1, hD]; exact (Below.heap_alloc _ _ _ (by simp)).trans (World.alloc_heap_new w _)
  have enter : (Instr.enterLoop fn a.tmps ps assign body F.round).run P w = .ok (D + 1, [{ target := .collected D, args := #[] }]) W1 := by
    rw [hro, hW1, hD]; exact run_enterLoop_outer _ _ _ _ _
  rw [← hD] at hI hIx hKb hdone hstop hbody hTk
  -- what the iterator's contract is asked at
  let J : List α → World → Prop := fun pre W => (I pre W ∧ W.heap[D + 1]? = some (.loop (rec_ .ready none))) ∧ W.heap[D]? = some (.deferred (some []))
  let Jx : List α → World → Prop := fun pre W => ∃ c, (Ix c pre W ∧ W.heap[D + 1]? = some (.loop (rec_ .done (some c)))) ∧ W.heap[D]? = some (.deferred (some []))
  have oJ : ∀ ys A B, J ys A → Tn A B → J ys B := fun ys A B hs ht => ⟨⟨hTI ys A B hs.1.1 ht, hTk A B _ _ ht (by omega) hs.1.2⟩, hTk A B _ _ ht (Nat.le_refl _) hs.2⟩
  have jStart : J [] W1 := ⟨⟨by rw [hW1]; rw [hD] at hI; exact hI.alloc _ (hI.alloc _ h0), rL⟩, rD⟩
  have below1 : Below w0.heap.size w0 W1 := by
    rw [hW1]; exact hb0.trans ((((Below.refl _ w).alloc (Nat.le_refl _) _).alloc (by simp) _).mono hb0.size)
  refine ⟨D + 1, [{ target := .collected D, args := #[] }], W1, { target := .fn (.func gf) lb, args := #[.func (.yield (D + 1)) #[] #[]] }, W1, gf, #[.func (.yield (D + 1)) #[] #[]] ++ lb, W1, enter, ?_, ?_, ?_, fun _ => h1, ?_⟩
  · simp only [resolve, hg]; simp [go_sem]
  · intro f' hf'; simp [Target.leads] at hf'; subst hf'; exact hFg
  · simp [invoke, go_sem, eg]
  refine (hseq (D + 1) J Jx W1 below1 oJ ?round jStart).mono ?after
  case after =>
    rintro e W2 ⟨⟨v, rfl⟩, h⟩
    rcases h with ⟨xs, hS, ⟨hi, hl⟩, hd⟩ | ⟨pre, hSp, c, ⟨hi, hl⟩, hd⟩
    · refine ⟨none, _, run_endLoop (P := P) hl (by simp [rec_]), ?_⟩
      exact hdone D xs _ (Nat.le_refl _) hS (hI.putObj _ hi (by omega) hl rfl) ((World.putObj_heap_other (by omega)).trans hd)
    · refine ⟨some c, _, run_endLoop (P := P) hl (by simp [rec_]), ?_⟩
      exact hstop D c pre _ (Nat.le_refl _) hSp ((hIx c).putObj _ hi (by omega) hl rfl) ((World.putObj_heap_other (by omega)).trans hd)
  case round =>
    rintro pre x W ⟨⟨hi, hl⟩, hd⟩ hlen
    have hlt : D + 1 < W.heap.size := (Array.getElem?_eq_some_iff.1 hl).1
    refine ⟨fn, _, assign, body, run_yield (P := P) (args := encs x) hl (hps x), roundIn_of_wpIn hfn (hassign _ x W _ ⟨_, run_beginRound hl rfl, ?_⟩)⟩
    obtain ⟨Wb, hWb⟩ : ∃ Wb, Wb = W.putObj (D + 1) (.loop { rec_ .ready none with state := .busy }) := ⟨_, rfl⟩
    rw [← hWb]
    have hlb : Wb.heap[D + 1]? = some (.loop { rec_ .ready none with state := .busy }) := by rw [hWb]; exact World.putObj_heap_same hlt
    have hdb : Wb.heap[D]? = some (.deferred (some [])) := by rw [hWb]; exact (World.putObj_heap_other (by omega)).trans hd
    have hib : I pre Wb := by rw [hWb]; exact hI.putObj _ hi (by omega) hl rfl
    have kb : Kp W Wb := by rw [hWb]; exact hKb _ _ _ _ (by omega) hl rfl rfl
    have fb : KeepsFrom W1.heap.size W Wb := by rw [hWb]; exact keepsFrom_put (by omega)
    refine wpIn_mono (hbody _ pre x Wb hib hlen) ?_
    have fin : ∀ (jump : Option Code) (W3 : World), KeepsFrom D Wb W3 → W3.heap[D + 1]? = some (.loop { rec_ .ready none with state := .busy }) ∧
        (Instr.endRound (D + 1) jump).run P W3 = .ok (.bool jump.isNone) (W3.putObj (D + 1) (.loop (rec_ (if jump.isNone then .ready else .done) jump))) ∧
        KeepsFrom W1.heap.size W (W3.putObj (D + 1) (.loop (rec_ (if jump.isNone then .ready else .done) jump))) ∧
        (W3.putObj (D + 1) (.loop (rec_ (if jump.isNone then .ready else .done) jump))).heap[D + 1]? = some (.loop (rec_ (if jump.isNone then .ready else .done) jump)) ∧
        (W3.putObj (D + 1) (.loop (rec_ (if jump.isNone then .ready else .done) jump))).heap[D]? = some (.deferred (some [])) := fun jump W3 hk => by
      have hl3 := hk.same _ _ (by omega) hlb rfl
      exact ⟨hl3, run_endRound (P := P) jump hl3, (fb.trans (keepsFrom_mono hk (by omega))).trans (keepsFrom_put (by omega)), World.putObj_heap_same (Array.getElem?_eq_some_iff.1 hl3).1, (World.putObj_heap_other (by omega)).trans (hk.same _ _ (Nat.le_refl _) hdb rfl)⟩
    have leave : ∀ (c : Code) (W3 : World), KeepsFrom D Wb W3 → Ix c (pre ++ [x]) W3 → ∃ v w', (Instr.endRound (D + 1) (some c)).run P W3 = .ok v w' ∧
        ((Ending.returned v = .returned (.bool true) ∧ J (pre ++ [x]) w' ∧ Kp W w') ∨ (Ending.returned v = .returned (.bool false) ∧ Jx (pre ++ [x]) w')) := fun c W3 hk hx => by
      obtain ⟨hl3, hr, hkf, hl4, hd4⟩ := fin (some c) W3 hk
      exact ⟨_, _, hr, .inr ⟨rfl, c, ⟨(hIx c).putObj _ hx (by omega) hl3 rfl, hl4⟩, hd4⟩⟩
    rintro e a3 W3 hp
    cases e with
    | normal =>
      obtain ⟨hk, hkp, hi3⟩ := hp
      obtain ⟨hl3, hr, hkf, hl4, hd4⟩ := fin none W3 hk
      exact ⟨_, _, hr, .inl ⟨rfl, ⟨⟨hI.putObj _ hi3 (by omega) hl3 rfl, hl4⟩, hd4⟩, hKt (hKt kb hkp) (hKb _ _ _ _ (by omega) hl3 rfl rfl)⟩⟩
    | ret => exact leave .ret W3 hp.1 hp.2
    | exit id => exact leave (.exit id) W3 hp.1 hp.2
    | goto t => exact leave (.goto t) W3 hp.1 hp.2
    | panic ch => exact hp.elim
    | outgrown => exact hp.elim

end Go.Proofs.YtnhdcefoigmjpaaDoor

/-
  The contract of a trie's iterator All: it steps the trie's meter between the rounds.
-/

namespace Go.Proofs.YtnhdcefoigmjpaaDoor
open Go.RowKit Go.Shelf Go.Proofs.YtnhdcefoigmjpaaDoorW.PrintWords Go.Proofs.YtnhdcefoigmjpaaDoorW.PrintMore
attribute [local go_sem] Oper.semAt_some
set_option linter.unusedVariables false
set_option linter.unusedSimpArgs false

/-! ### the plain part -/
theorem nxt_rest {pre r : List Nat} {y : Nat} (h : Up (pre ++ y :: r)) : (pre ++ y :: r)[cntLt (pre ++ y :: r) (y + 1)]? = r.head? := by
  have h1 : (pre ++ y :: r).filter (fun x => decide (y + 1 ≤ x)) = r := by
    rw [List.filter_append, List.filter_cons]
    have hp := List.pairwise_append.1 h
    have e1 : pre.filter (fun x => decide (y + 1 ≤ x)) = [] := List.filter_eq_nil_iff.2 (fun x hx => by have := hp.2.2 x hx y List.mem_cons_self; simp; omega)
    have e2 : r.filter (fun x => decide (y + 1 ≤ x)) = r := List.filter_eq_self.2 (fun x hx => by have := (List.pairwise_cons.1 hp.2.1).1 x hx; simp; omega)
    rw [e1, e2, if_neg (by simp), List.nil_append]
  have h2 := (cnt_cut h (y + 1)).2
  rw [h1] at h2
  have h3 := congrArg List.head? h2
  rw [List.head?_drop] at h3
  exact h3
theorem rest_max {pre r : List Nat} {y : Nat} (h : Up (pre ++ y :: r)) (hb : ∀ x, x ∈ pre ++ y :: r → x < 18446744073709551616) (hy : ¬ y < 18446744073709551615) : r = [] := by
  cases r with
  | nil => rfl
  | cons x r =>
    have h1 := (List.pairwise_cons.1 (List.pairwise_append.1 h).2.1).1 x List.mem_cons_self
    have h2 := hb x (by simp)
    omega
def measU (kv okv : Value) : Nat := match okv with | .bool true => 18446744073709551617 - (intOf kv).toNat | _ => 0

theorem measU_lt (kk k3 : Nat) (b3 : Bool) (h : kk < 18446744073709551615) (hg : b3 = true → kk < k3) : measU (.int .u64 (k3 : Nat)) (.bool b3) < measU (.int .u64 (kk : Nat)) (.bool true) := by
  cases b3 with
  | false => simp only [measU, intOf]; omega
  | true => have := hg rfl; simp only [measU, intOf]; omega
/-- What a round keeps: whatever lies below n₀, and block Bn. -/
def KpT (n₀ Bn : Nat) (W W' : World) : Prop := Below n₀ W W' ∧ W'.heap[Bn]? = W.heap[Bn]?
theorem KpT.trans {n₀ Bn : Nat} {A B C : World} (h : KpT n₀ Bn A B) (k : KpT n₀ Bn B C) : KpT n₀ Bn A C := ⟨h.1.trans k.1, k.2.trans h.2⟩
theorem KpT.b {n₀ Bn : Nat} {w : World} (hn : n₀ ≤ w.heap.size) (hB : Bn < w.heap.size) (W : World) (l : Nat) (o o' : Obj) (hl : w.heap.size ≤ l) (h : W.heap[l]? = some o) (h1 : o.isCells = false) (h2 : o.isWalk = false) : KpT n₀ Bn W (W.putObj l o') :=
  ⟨belowK_b hn W l o o' hl h h1 h2, World.putObj_heap_other (by omega)⟩
theorem fr_below {S : Nat → Prop} {A B C : World} {n : Nat} (h : Fr S A B) (k : Below n B C) (hn : A.heap.size ≤ n) : Fr S A C :=
  ⟨k.os.trans h.os, k.tape.trans h.tape, k.output.trans h.output, Nat.le_trans h.size k.size, fun i hi hs => (k.block i (Nat.lt_of_lt_of_le hi hn)).trans (h.block i hi hs)⟩
/-- What the iterator does between the rounds. -/
def TnT (m : Nat) (W W' : World) : Prop := Fr (One m) W W' ∧ ∃ tk : Int, MT W' m tk

theorem tallc_calls (P : Option Addr) (w : World) : Calls Tryd.prog 68 #[.pointer P] w fun e w' => e = .returned (.func (.func 84) #[] #[.pointer (some ⟨w.heap.size, 0, none⟩)]) ∧ w' = w.alloc (.cells #[.pointer P] 24) := by
  go_enter Tryd.func68, Tryd.ntmps68
  go_wp2
  go_ret
  exact ⟨rfl, rfl⟩

set_option maxRecDepth 100000 in
set_option maxHeartbeats 2000000 in
theorem tall_in (n : Nat) (hn : 1 ≤ n) (lp Bn n₀ : Nat) (t m p lim root : Nat) (l : List Nat) (ad : Ad) (rows : List (Option Nd)) (free : List Nat) (cv fv : Value) (tk0 : Int) (w0 : World) (hTI : TI w0 t m p l lim ad rows free cv fv root) (hM0 : MT w0 m tk0) (hT : Tb w0) (hn₀ : w0.heap.size ≤ n₀) (J Jx : List Nat → World → Prop)
    (hJ : ∀ ys A B, J ys A → TnT m A B → J ys B)
    (hY : ∀ pre y W, J pre W → pre.length < l.length → YieldAt Fence.wide (n - 1) Tryd.prog lp #[.int .u64 (y : Nat)] W fun e W' =>
      (e = .returned (.bool true) ∧ J (pre ++ [y]) W' ∧ KpT n₀ Bn W W') ∨ (e = .returned (.bool false) ∧ Jx (pre ++ [y]) W'))
    (W : World) (hfr : Fr (One m) w0 W) (tk1 : Int) (hM : MT W m tk1) (hBn : W.cell? ⟨Bn, 0, none⟩ = some (.pointer (some ⟨t, 0, none⟩))) (hBm : Bn ≠ m) (h0 : J [] W) :
    CallsIn Fence.wide n Tryd.prog 84 #[.func (.yield lp) #[] #[], .pointer (some ⟨Bn, 0, none⟩)] W fun e W' => (∃ v, e = .returned v) ∧
      ((∃ ys, ys = l ∧ J ys W') ∨ (∃ pre, pre <+: l ∧ Jx pre W')) := by
  have HJn := Lib.hid hJ
  have HT := Lib.hid hT
  have HY := Lib.hid hY
  have H0 := Lib.hid h0
  have HTI := Lib.hid hTI
  have HM0 := Lib.hid hM0
  have HM := Lib.hid hM
  have HFr := Lib.hid hfr
  have HUP := Lib.hid hTI.up
  have HBD := Lib.hid hTI.bd
  have HMN := Lib.hid (fun w' (tk : Int) (hf : Fr (One m) w0 w') (hm : MT w' m tk) => tmin_calls t m p lim root l ad rows free cv fv tk w' (hTI.meter hM0 hf) hm)
  have HNX := Lib.hid (fun w' (tk : Int) (hf : Fr (One m) w0 w') (hm : MT w' m tk) (k : Nat) (hk : k < 18446744073709551616) => tnext_calls t m p lim root l ad rows free cv fv tk w' (hTI.meter hM0 hf) hm k hk (hT.meter hM0 hf))
  obtain ⟨k0, hk0⟩ : ∃ k0, k0 = l.headD 0 := ⟨_, rfl⟩
  obtain ⟨b0, hb0⟩ : ∃ b0, b0 = decide (l ≠ []) := ⟨_, rfl⟩
  rw [← hk0, ← hb0] at HMN
  have HK0 := Lib.hid hk0
  have HB0 := Lib.hid hb0
  clear hJ hT hY h0 hTI hM0 hM hfr hk0 hb0
  refine callsIn_of_wp Tryd.func84 rfl trivial ?_ rfl
  simp only [Tryd.ntmps84, List.size_toArray, List.length_cons, List.length_nil, Nat.reduceAdd, Nat.reduceSub, Array.replicate_succ, Array.replicate_zero, List.push_toArray, List.append_toArray, List.nil_append, List.cons_append]
  gi_wp2_with (refine ⟨trivial, ?_⟩; gi_at_call 27; refine (callsIn_wide.2 (HMN.out _ tk1 HFr.out HM.out)).mono ?_; rintro e W1 ⟨rfl, hti, ⟨tk2, _, _, hm2⟩, hF⟩; have HJ1 := Lib.hid (HJn.out [] W W1 H0.out ⟨hF, tk2, hm2⟩); have HF1 := Lib.hid (HFr.out.trans hF); have HM1 : Hid (∃ tk, MT W1 m tk) := Lib.hid ⟨tk2, hm2⟩; have HC1 := Lib.hid (hF.cell hBn (One.ne hBm)); clear hti hm2 hF)
  gi_loopw [3, 4] (fun kv okv wr => ∃ (kk : Nat) (pre rest : List Nat), kv = .int .u64 kk ∧ okv = .bool (decide (rest ≠ [])) ∧ kk < 18446744073709551616 ∧ Hid (l = pre ++ rest) ∧ Hid (∀ y r, rest = y :: r → kk = y) ∧ Hid (J pre wr) ∧ Hid (Fr (One m) w0 wr) ∧ Hid (∃ tk, MT wr m tk) ∧ Hid (wr.cell? ⟨Bn, 0, none⟩ = some (.pointer (some ⟨t, 0, none⟩))))
    (fun kv okv _ => measU kv okv)
  case atStart =>
    refine ⟨k0, [], l, rfl, by rw [HB0.out], ?_, Lib.hid rfl, Lib.hid (fun y r e => by rw [HK0.out, e]; rfl), HJ1, HF1, HM1, HC1⟩
    rw [HK0.out]
    cases hl : l with
    | nil => decide
    | cons x r => exact HBD.out x (by rw [hl]; exact List.mem_cons_self)
  case round =>
    obtain ⟨kk, pre, rest, rfl, rfl, hkb, HL, HK, HJ, HF, HMr, HC⟩ := hrel
    cases rest with
    | nil =>
      have HE : Hid (pre = l) := Lib.hid (by rw [HL.out, List.append_nil])
      have hdn : decide (([] : List Nat) ≠ []) = false := rfl
      rw [hdn]
      gi_wp2_with (refine ⟨(by intro f h; cases h), ?_⟩)
      go_end0
      exact ⟨⟨_, rfl⟩, .inl ⟨pre, HE.out, HJ.out⟩⟩
    | cons y r =>
      obtain rfl := HK.out y r rfl
      have hdn : decide (kk :: r ≠ []) = true := by simp
      rw [hdn]
      obtain ⟨fn, tmps, assign, body, hy, hR⟩ := HY.out pre kk wr HJ.out (by rw [HL.out]; simp)
      have HUPl := HUP.out
      rw [HL.out] at HUPl
      have HRB : Hid (∀ x, x ∈ r → x < 18446744073709551616) := Lib.hid (fun x hx => HBD.out x (by rw [HL.out]; simp [hx]))
      by_cases hmx : kk < 18446744073709551615
      · have HNV : Hid (nxtV l (kk + 1) = .tuple #[.int .u64 ((r.headD 0 : Nat) : Int), .bool (decide (r ≠ []))]) := Lib.hid (by
          unfold nxtV
          have e := nxt_rest HUPl
          rw [← HL.out] at e
          rw [e]
          cases r <;> simp)
        have hmx' : (kk : Int) < 18446744073709551615 := by omega
        have HNX2 := Lib.hid (fun w' (tk : Int) (hf : Fr (One m) w0 w') (hm : MT w' m tk) => HNX.out w' tk hf hm (kk + 1) (by omega))
        rw [HNV.out] at HNX2
        obtain ⟨k3, hk3⟩ : ∃ k3, k3 = r.headD 0 := ⟨_, rfl⟩
        obtain ⟨b3, hb3⟩ : ∃ b3, b3 = decide (r ≠ []) := ⟨_, rfl⟩
        rw [← hk3, ← hb3] at HNX2
        have HK3 := Lib.hid hk3
        have HB3 := Lib.hid hb3
        have hk3b : k3 < 18446744073709551616 := by
          rw [hk3]
          cases r with
          | nil => decide
          | cons x r => exact HRB.out x List.mem_cons_self
        have HGT : Hid (b3 = true → kk < k3) := Lib.hid (fun h => by
          rw [hb3] at h
          cases r with
          | nil => cases h
          | cons x r =>
            rw [hk3]
            exact (List.pairwise_cons.1 (List.pairwise_append.1 HUPl).2.1).1 x List.mem_cons_self)
        clear HUPl hk3 hb3 HNV
        rw [show ((kk + 1 : Nat) : Int) = (kk : Int) + 1 by omega] at HNX2
        gi_wp2_with (fail)
        refine hR.mono ?_
        rintro e W3 (⟨rfl, hJ3, hk3⟩ | ⟨rfl, hJx3⟩)
        · have hF3 := fr_below HF.out hk3.1 hn₀
          have HC3 := (World.cell?_of_block (w := wr) hk3.2).trans HC.out
          obtain ⟨tk, hmr⟩ := HMr.out
          have hm3 : MT W3 m tk := by obtain ⟨a, b, c, d, hb⟩ := hmr; exact ⟨a, b, c, d, (hk3.1.block m (by have := HM0.out.mlt; omega)).trans hb⟩
          have HJ3 := Lib.hid hJ3
          have HF3 := Lib.hid hF3
          have HM3 := Lib.hid hm3
          clear hJ3 hk3 hy hR HJ hF3 hm3
          gi_wp2_with (refine ⟨trivial, ?_⟩; gi_at_call 14; refine (callsIn_wide.2 (HNX2.out _ tk HF3.out HM3.out)).mono ?_; rintro e W4 ⟨rfl, hti, ⟨tk2, _, _, hm2⟩, hF4⟩; have HJ4 := Lib.hid (HJn.out _ _ _ HJ3.out ⟨hF4, tk2, hm2⟩); have HF4 := Lib.hid (HF3.out.trans hF4); have HM4 : Hid (∃ tk, MT W4 m tk) := Lib.hid ⟨tk2, hm2⟩; have HC4 := Lib.hid (hF4.cell HC3 (One.ne hBm)); clear hti hm2 hF4)
          go_roundw
          case rel => exact ⟨k3, pre ++ [kk], r, rfl, by rw [HB3.out], hk3b, Lib.hid (by rw [HL.out]; simp), Lib.hid (fun y r' e => by rw [HK3.out, e]; rfl), HJ4, HF4, HM4, HC4⟩
          case measure => exact measU_lt kk k3 b3 hmx HGT.out
        · have HJ3 := Lib.hid hJx3
          clear hJx3 hy hR HJ
          gi_wp2_with (refine ⟨(by intro f h; cases h), ?_⟩)
          go_end0
          exact ⟨⟨_, rfl⟩, .inr ⟨pre ++ [kk], ⟨r, by rw [HL.out]; simp⟩, HJ3.out⟩⟩
      · have HBl := HBD.out
        rw [HL.out] at HBl
        have HRN : Hid (r = []) := Lib.hid (rest_max HUPl HBl hmx)
        have hmb1 : decide ((kk : Int) < 18446744073709551615) = false := decide_eq_false (by omega)
        have hmb2 : decide (kk < 18446744073709551615) = false := decide_eq_false hmx
        clear HUPl HBl hmx hkb
        gi_wp2_with (fail)
        refine hR.mono ?_
        rintro e W3 (⟨rfl, hJ3, hk3⟩ | ⟨rfl, hJx3⟩)
        · have HJ3 := Lib.hid hJ3
          clear hJ3 hk3 hy hR HJ
          gi_wp2_with (refine ⟨(by intro f h; cases h), ?_⟩)
          go_end0
          exact ⟨⟨_, rfl⟩, .inl ⟨pre ++ [kk], by rw [HL.out, HRN.out], HJ3.out⟩⟩
        · have HJ3 := Lib.hid hJx3
          clear hJx3 hy hR HJ
          gi_wp2_with (refine ⟨(by intro f h; cases h), ?_⟩)
          go_end0
          exact ⟨⟨_, rfl⟩, .inr ⟨pre ++ [kk], ⟨r, by rw [HL.out]; simp⟩, HJ3.out⟩⟩
end Go.Proofs.YtnhdcefoigmjpaaDoor

/-
  The law's all: the first keys of a trie, at most so many.
-/

namespace Go.Proofs.YtnhdcefoigmjpaaDoor
open Go.RowKit Go.Shelf Go.Proofs.YtnhdcefoigmjpaaDoorW.PrintWords Go.Proofs.YtnhdcefoigmjpaaDoorW.PrintMore
attribute [local go_sem] Oper.semAt_some
set_option linter.unusedVariables false
set_option linter.unusedSimpArgs false

/-- Keys as the walk has them. -/
def keysI (l : List Nat) : List Int := l.map (fun (j : Nat) => (j : Int))
theorem keysI_len (l : List Nat) : (keysI l).length = l.length := by simp [keysI]
theorem mt_below {W W' : World} {m n : Nat} {t : Int} (h : MT W m t) (hb : Below n W W') (hm : m < n) : MT W' m t := by
  obtain ⟨a, b, c, d, hx⟩ := h
  exact ⟨a, b, c, d, (hb.block m hm).trans hx⟩
theorem fr_put {S : Nat → Prop} {A B : World} {D : Nat} (h : Fr S A B) (hD : A.heap.size ≤ D) (o : Obj) : Fr S A (B.putObj D o) :=
  h.trans_of (fr_grown (grownBy_putObj' B D o)) (fun i hi e => by cases e; omega)
theorem mt_put {W : World} {m D : Nat} {t : Int} (h : MT W m t) (hD : m ≠ D) (o : Obj) : MT (W.putObj D o) m t := by
  obtain ⟨a, b, c, d, hx⟩ := h
  exact ⟨a, b, c, d, (World.putObj_heap_other hD).trans hx⟩
theorem tall_stops (n : Nat) (hn : 1 ≤ n) (Bn n₀ : Nat) (t m p lim root : Nat) (l : List Nat) (ad : Ad) (rows : List (Option Nd)) (free : List Nat) (cv fv : Value) (tk0 tk1 : Int) (w0 w : World) (hTI : TI w0 t m p l lim ad rows free cv fv root) (hM0 : MT w0 m tk0) (hT : Tb w0) (hn₀ : w0.heap.size ≤ n₀)
    (hfr : Fr (One m) w0 w) (hM : MT w m tk1) (hBl : Bn < w.heap.size) (hBn : w.cell? ⟨Bn, 0, none⟩ = some (.pointer (some ⟨t, 0, none⟩))) (hBm : Bn ≠ m) :
    SeqM Fence.wide n Tryd.prog 84 #[.pointer (some ⟨Bn, 0, none⟩)] (fun y : Nat => #[Value.int .u64 (y : Nat)]) (TnT m) (KpT n₀ Bn) (fun ys => ys = l) (fun pre => pre <+: l) l.length w := fun lp J Jx W hW hJ hY h0 => by
  have hm2 : MT W m tk1 := by obtain ⟨a, b, c, d, hb⟩ := hM; exact ⟨a, b, c, d, (hW.block m (blk_lt hb)).trans hb⟩
  exact tall_in n hn lp Bn n₀ t m p lim root l ad rows free cv fv tk0 w0 hTI hM0 hT hn₀ J Jx hJ hY W (fr_below hfr hW hfr.size) tk1 hm2 ((hW.cell (p := ⟨Bn, 0, none⟩) hBl).trans hBn) hBm h0
theorem ownFrom_frm {β : Type} {B m : Nat} {w0 : World} (h1 : w0.heap.size ≤ B) (h2 : m < B) : OwnFrom B (fun (_ : β) W => Fr (One m) w0 W ∧ ∃ tk : Int, MT W m tk) := fun s A C row hs hg hr => by
  obtain ⟨hf, tk, a, b, c, d, hb⟩ := hs
  have key : ∀ k, k < B → k < A.heap.size → C.heap[k]? = A.heap[k]? := fun k hk hl => hg.block k hl (fun e => by have := (hr k e.symm).1; omega)
  refine ⟨⟨hg.os.trans hf.os, hg.tape.trans hf.tape, hg.output.trans hf.output, Nat.le_trans hf.size hg.size, fun k hk hS => ?_⟩, tk, a, b, c, d, (key m h2 (blk_lt hb)).trans hb⟩
  exact (key k (by omega) (Nat.lt_of_lt_of_le hk hf.size)).trans (hf.block k hk hS)
set_option maxRecDepth 100000 in
set_option maxHeartbeats 4000000 in
theorem lall_calls (t m p lim root : Nat) (l : List Nat) (ad : Ad) (rows : List (Option Nd)) (free : List Nat) (cv fv : Value) (tk : Int) (w : World) (h : TI w t m p l lim ad rows free cv fv root) (hm : MT w m tk) (hT : Tb w) (k : Nat) (hk1 : 1 ≤ k) (hk2 : k ≤ 100000) :
    Calls Tryd.prog 32 #[.pointer (some ⟨t, 0, none⟩), .int .i64 k] w fun e w' => ∃ A c, e = .returned (.slice A (l.take k).length c) ∧ Kd.C (Kd.int .u64) w' A (l.take k).length (keysI (l.take k)) ∧ (l.take k).length ≤ c ∧ TI w' t m p l lim ad rows free cv fv root ∧ (∃ tk' : Int, MT w' m tk') ∧ Fr (One m) w w' := by
  have HT := Lib.hid hT
  have HTI := Lib.hid h
  have HM := Lib.hid hm
  have hml := hm.mlt
  have htl := h.lt
  clear hT h hm
  obtain ⟨i0, hi, hz0, hz1, hz2⟩ := info_parts info_u64
  refine (callsIn_wide (n := 3)).1 ?_
  refine callsIn_of_wp_marks Tryd.func32 rfl trivial ?_ rfl
  simp only [Tryd.ntmps32, List.size_toArray, List.length_cons, List.length_nil, Nat.reduceAdd, Nat.reduceSub, Array.replicate_succ, Array.replicate_zero, List.push_toArray, List.append_toArray, List.nil_append, List.cons_append]
  gi_wp2_with (refine ⟨trivial, ?_⟩; gi_at_call 68; refine (callsIn_wide.2 (tallc_calls (some ⟨t, 0, none⟩) _)).mono ?_; rintro e w' ⟨rfl, rfl⟩)
  have bM := Boxed.new w 3 (.int .i64 k)
  have bO := Boxed.new (w.alloc (.cells #[.int .i64 k] 3)) 22 (.slice none 0 0)
  have bN := Boxed.new ((w.alloc (.cells #[.int .i64 k] 3)).alloc (.cells #[.slice none 0 0] 22)) 24 (.pointer (some ⟨t, 0, none⟩))
  simp only [World.size_alloc] at bO bN
  obtain ⟨w0, hw0⟩ : ∃ w0, w0 = (w.alloc (.cells #[.int .i64 k] 3)) := ⟨_, rfl⟩
  have hNw : Nw w w0 := by rw [hw0]; exact Fr.alloc (Fr.refl _ _) _
  have hs0 : w0.heap.size = w.heap.size + 1 := by rw [hw0]; simp
  have hTI0 : TI w0 t m p l lim ad rows free cv fv root := HTI.out.nw hNw
  have hM0 : MT w0 m tk := HM.out.fr hNw (fun h => h)
  have hT0 : Tb w0 := HT.out.step hNw
  have hFW : Fr (One m) w0 (((w.alloc (.cells #[.int .i64 k] 3)).alloc (.cells #[.slice none 0 0] 22)).alloc (.cells #[.pointer (some ⟨t, 0, none⟩)] 24)) := by rw [hw0]; exact ((Fr.refl _ _).alloc _).alloc _
  have hMW : MT (((w.alloc (.cells #[.int .i64 k] 3)).alloc (.cells #[.slice none 0 0] 22)).alloc (.cells #[.pointer (some ⟨t, 0, none⟩)] 24)) m tk := HM.out.fr (S := fun _ => False) ((((Fr.refl _ _).alloc _).alloc _).alloc _) (fun h => h)
  rw [← hw0] at bM
  have HTI0 := Lib.hid hTI0
  have HM0 := Lib.hid hM0
  have HNW := Lib.hid hNw
  have hBm : w.heap.size + 1 + 1 ≠ m := by omega
  refine wpIn_rangeFunc_seqM rfl (by decide) (gf := 84) (lb := #[.pointer (some ⟨w.heap.size + 1 + 1, 0, none⟩)]) rfl trivial (enters_of Tryd.func84 (by kernel_rfl) rfl)
    (tall_stops _ (by decide) (w.heap.size + 1 + 1) (w.heap.size + 1) t m p lim root l ad rows free cv fv tk tk w0 _ hTI0 hM0 hT0 (by omega) hFW hMW (by simp <;> omega) bN.cell hBm) KpT.trans (KpT.b (by simp <;> omega) (by simp)) (Below.refl _ _) (fun _ => rfl)
    (fun A B q o ht hq ho => ht.1.blk ho (by simp at hq; simp only [One]; omega))
    (fun (pre : List Nat) W => (pre.length < k ∧ ∃ v, Boxed W (w.heap.size + 1) 22 v ∧ W.ownsRow (w.heap.size + 1) 31 1 v pre.length ((keysI pre).map (Value.int .u64)) ∧ True) ∧ ((Fr (One m) w0 W ∧ ∃ tk : Int, MT W m tk) ∧ Boxed W (w.heap.size + 1 + 1) 24 (.pointer (some ⟨t, 0, none⟩))))
    (fun c (pre : List Nat) W => ((c = .exit 0 ∧ pre.length = k) ∧ ∃ v, Boxed W (w.heap.size + 1) 22 v ∧ W.ownsRow (w.heap.size + 1) 31 1 v pre.length ((keysI pre).map (Value.int .u64)) ∧ True) ∧ (Fr (One m) w0 W ∧ ∃ tk : Int, MT W m tk))
    ?tn
    (OwnFrom.and (OwnFrom.and (ownFrom_pure _ (fun pre : List Nat => pre.length < k)) (Own.from (holdsRow_own (w.heap.size + 1) (w.heap.size + 1) 22 31 1 (fun pre : List Nat => pre.length) (fun pre : List Nat => (keysI pre).map (Value.int .u64)) (fun _ _ => True)) _)) (OwnFrom.and (ownFrom_frm (by simp <;> omega) (by simp <;> omega)) (Own.from (boxed_own _ _ (fun _ => Value.pointer (some ⟨t, 0, none⟩))) _)))
    (fun c => OwnFrom.and (OwnFrom.and (ownFrom_pure _ (fun pre : List Nat => c = .exit 0 ∧ pre.length = k)) (Own.from (holdsRow_own (w.heap.size + 1) (w.heap.size + 1) 22 31 1 (fun pre : List Nat => pre.length) (fun pre : List Nat => (keysI pre).map (Value.int .u64)) (fun _ _ => True)) _)) (ownFrom_frm (by simp <;> omega) (by simp <;> omega)))
    ⟨⟨by simp; omega, _, bO.alloc _, World.ownsRow_nil _ _ _ _, trivial⟩, ⟨hFW, tk, hMW⟩, bN⟩
    (fun y => { tmps := #[.pointer (some ⟨t, 0, none⟩), .int .i64 k, undef, .pointer (some ⟨w.heap.size, 0, none⟩), .slice none 0 0, .pointer (some ⟨w.heap.size + 1, 0, none⟩), .int .u64 (y : Nat), .pointer (some ⟨t, 0, none⟩), .func (.func 84) #[] #[.pointer (some ⟨w.heap.size + 1 + 1, 0, none⟩)], .int .u64 (y : Nat), undef, undef, undef, undef, undef, undef, undef, undef, undef], defers := [] }) ?assign ?body ?done ?stop
  case tn =>
    rintro ys A B ⟨⟨hlt, v, hv, hrow, _⟩, ⟨hF, hMx⟩, hbn⟩ ⟨hT1, hT2⟩
    have hg := grown_of hT1 (some m) (fun k h => by rw [show k = m from h])
    refine ⟨⟨hlt, v, hv.kept hg (fun e => by cases e; omega), World.ownsRow.kept hrow hg ?_, trivial⟩, ⟨hF.trans hT1, hT2⟩, hbn.kept hg (fun e => by cases e; omega)⟩
    rcases hrow.2 with ⟨rfl, _⟩ | ⟨g, cap, cur, rfl, hgb, _⟩
    · exact .inl rfl
    · exact .inr (fun e => by simp only [Value.ownBlock, Option.some.injEq] at e; omega)
  case assign =>
    intro l y W K hK
    gi_wp2
    exact hK
  case body =>
    rintro lp pre y W ⟨⟨hlt, v, hv, hrow, _⟩, ⟨hF, tkx, hMx⟩, hbn⟩ _
    have hc := hv.cell
    have hBs := hF.size
    have hbns := hbn.lt
    have HF := Lib.hid hF
    have HMX := Lib.hid hMx
    have hkb := hF.cell bM.cell (by simp only [One]; omega)
    clear bO bN hw0 hFW hMW hF hMx hTI0 hM0 hT0
    gi_wp2_with (gi_at_builtin; refine wpListIn_append_own _ rfl _ _ 22 rfl (w.heap.size + 1) 31 i0 (.int .u64 0) 1 8 Tryd.underlying22 hi hz0 hz1 hz2 rfl (by decide) _ _ _ rfl (hrow.alloc _) ⟨W.heap.size, 0, none⟩ 1 1 [.int .u64 (y : Nat)] rfl rfl (cell_one_new _ _ _) (by simp [Value.oneCell']) (by have hM : maxLen = 9223372036854775807 := rfl; omega) (by omega) (by simp <;> omega) ?_; intro v' w1 hown' hgrow _; obtain ⟨g', cap', rfl⟩ := ownsRow_succ hown'; have hbn1 : Boxed w1 (w.heap.size + 1 + 1) 24 (.pointer (some ⟨t, 0, none⟩)) := Boxed.kept (hbn.alloc (.cells #[.int .u64 (y : Nat)] 31)) hgrow (Boxed.not_row (hbn.alloc (.cells #[.int .u64 (y : Nat)] 31)) (by decide) (hrow.alloc (.cells #[.int .u64 (y : Nat)] 31))); obtain ⟨hv1, hv2, hr2, hk2, hb2⟩ := hv.appended (by decide) hrow (by omega) (Nat.le_refl _) hown' hgrow; have hc1 := hv1.cell; have hf1 := hv1.frozen; have hvc2 := hv2.cell; have hmc2 := (hb2.cell (p := ⟨w.heap.size, 0, none⟩) (Nat.lt_succ_self _)).trans hkb)
    · rename_i hx
      have hq : pre.length + 1 = k := by simp at hx; omega
      exact ⟨hk2.from _, ⟨⟨rfl, by simpa using hq⟩, _, hv2, by simpa [keysI] using hr2, trivial⟩, fr_below HF.out hb2 (by omega), tkx, mt_below HMX.out hb2 (by omega)⟩
    · rename_i hx
      have hq : ¬ pre.length + 1 = k := by simp at hx; omega
      have hbn2 := hbn1.other (B' := w.heap.size + 1) (by omega) (.slice (some ⟨g', 0, none⟩) (pre.length + 1) cap')
      exact ⟨hk2.from _, ⟨hb2, hbn2.trans hbn.symm⟩, ⟨by simp; omega, _, hv2, by simpa [keysI] using hr2, trivial⟩, ⟨fr_below HF.out hb2 (by omega), tkx, mt_below HMX.out hb2 (by omega)⟩, hbn2⟩
  case done =>
    rintro D ys W hD hys ⟨⟨hlt, v, hv, hrow, _⟩, ⟨hF, tkx, hMx⟩, _⟩ hK
    have hD2 : w.heap.size + 1 + 1 + 1 ≤ D := by simpa using hD
    have hE : l.take k = ys := by rw [← hys]; exact List.take_of_length_le (by omega)
    have hfw : Fr (One m) w (W.putObj D (.deferred none)) := fr_put ((hNw.mono (fun _ _ h => h.elim)).trans hF) (by omega) _
    have hmw := mt_put hMx (show m ≠ D by omega) (.deferred none)
    have hR : Kd.R (Kd.int .u64) 31 (W.putObj D (.deferred none)) (w.heap.size + 1) (fun _ => True) v (keysI ys) := Kd.R_of_own (by rw [keysI_len]; exact ownsRow_putObj hrow _ hK rfl) (fun _ _ => trivial)
    obtain ⟨A, c, rfl, hcl, hC⟩ := Kd.R_reads hR
    rw [keysI_len] at hcl hC
    have hc := hv.cell
    have HE := Lib.hid hE
    have HFW := Lib.hid hfw
    have HMW := Lib.hid hmw
    have HCC := Lib.hid hC
    rw [keysI_len] at hc
    clear bO bN hw0 hE hys hFW hMW hTI0 hM0 hT0 hfw hmw hC hF hMx hR hrow
    gi_wp2
    refine ⟨by simp, .inl ⟨_, _, rfl, run_takeDeferred hK, ?_⟩⟩
    refine ⟨_, results_tmp rfl _ _ _, A, c, ?_, ?_, ?_, HTI.out.meter HM.out HFW.out, ⟨_, HMW.out⟩, HFW.out⟩
    · rw [HE.out]; rfl
    · rw [HE.out]; exact HCC.out
    · rw [HE.out]; exact hcl
  case stop =>
    rintro D c pre W hD hpre ⟨⟨⟨rfl, hlen⟩, v, hv, hrow, _⟩, hF, tkx, hMx⟩ hK
    have hD2 : w.heap.size + 1 + 1 + 1 ≤ D := by simpa using hD
    have hE : l.take k = pre := by rw [← hlen]; exact (List.prefix_iff_eq_take.1 hpre).symm
    have hfw : Fr (One m) w (W.putObj D (.deferred none)) := fr_put ((hNw.mono (fun _ _ h => h.elim)).trans hF) (by omega) _
    have hmw := mt_put hMx (show m ≠ D by omega) (.deferred none)
    have hR : Kd.R (Kd.int .u64) 31 (W.putObj D (.deferred none)) (w.heap.size + 1) (fun _ => True) v (keysI pre) := Kd.R_of_own (by rw [keysI_len]; exact ownsRow_putObj hrow _ hK rfl) (fun _ _ => trivial)
    obtain ⟨A, c, rfl, hcl, hC⟩ := Kd.R_reads hR
    rw [keysI_len] at hcl hC
    have hc := hv.cell
    have HE := Lib.hid hE
    have HFW := Lib.hid hfw
    have HMW := Lib.hid hmw
    have HCC := Lib.hid hC
    rw [keysI_len] at hc
    clear bO bN hw0 hE hlen hFW hMW hTI0 hM0 hT0 hfw hmw hC hF hMx hR hrow hpre
    gi_wp2
    refine ⟨by simp, .inl ⟨_, _, rfl, run_takeDeferred hK, ?_⟩⟩
    refine ⟨_, results_tmp rfl _ _ _, A, c, ?_, ?_, ?_, HTI.out.meter HM.out HFW.out, ⟨_, HMW.out⟩, HFW.out⟩
    · rw [HE.out]; rfl
    · rw [HE.out]; exact HCC.out
    · rw [HE.out]; exact hcl
end Go.Proofs.YtnhdcefoigmjpaaDoor

/-
  A trie as the law sees it: its keys and its limit; what its calls do to the rest of the memory.
-/

namespace Go.Proofs.YtnhdcefoigmjpaaDoor
open Go.RowKit Go.Proofs.YtnhdcefoigmjpaaDoorW.PrintWords Go.Proofs.YtnhdcefoigmjpaaDoorW.PrintMore
set_option linter.unusedVariables false
set_option linter.unusedSimpArgs false

/-- A block of a type that only tries use here. -/
def TrB (W : World) (q : Nat) : Prop := ∃ cs T, W.heap[q]? = some (.cells cs T (0, 0)) ∧ (T = 64 ∨ T = 98 ∨ T = 102 ∨ T = 108 ∨ T = 3)
/-- Only a trie's blocks from B on have turned. -/
def FT (B : Nat) (W W' : World) : Prop := Fr (fun q => B ≤ q ∧ TrB W q) W W'
theorem FT.nw {B : Nat} {W W' : World} (h : Nw W W') : FT B W W' := h.mono (fun _ _ h => h.elim)
theorem FT.refl (B : Nat) (W : World) : FT B W W := Fr.refl _ _
theorem FT.trans {B : Nat} {A C D : World} (h : FT B A C) (k : FT B C D) : FT B A D := h.trans_of k (fun i hi hs => by
  by_cases hn : B ≤ i ∧ TrB A i
  · exact hn
  · obtain ⟨cs, T, h1, h2⟩ := hs.2
    exact ⟨hs.1, cs, T, (h.block i hi hn).symm.trans h1, h2⟩)
theorem Tb.ft {B : Nat} {W W' : World} (hT : Tb W) (h : FT B W W') (hg : 0 < B) : Tb W' := Tb.fr hT h (fun e => by have := e.1; omega)
/-- Block t is a trie of these keys; whatever it consists of was laid from B on. -/
def TX (W : World) (B t : Nat) (l : List Nat) (lim : Nat) : Prop := ∃ (m p : Nat) (ad : Ad) (rows : List (Option Nd)) (free : List Nat) (cv fv : Value) (root : Nat) (tk : Int),
  TI W t m p l lim ad rows free cv fv root ∧ MT W m tk ∧ B ≤ t ∧ B ≤ m ∧ B ≤ p ∧ (∀ q, cv.ownBlock = some q → B ≤ q) ∧ (∀ q, fv.ownBlock = some q → B ≤ q)
theorem TX.up {W : World} {B t lim : Nat} {l : List Nat} (h : TX W B t l lim) : Up l := by obtain ⟨_, _, _, _, _, _, _, _, _, h, _⟩ := h; exact h.up
theorem TX.bd {W : World} {B t lim : Nat} {l : List Nat} (h : TX W B t l lim) : ∀ x, x ∈ l → x < 18446744073709551616 := by obtain ⟨_, _, _, _, _, _, _, _, _, h, _⟩ := h; exact h.bd
theorem TX.len {W : World} {B t lim : Nat} {l : List Nat} (h : TX W B t l lim) : l.length ≤ 1000000 := by obtain ⟨_, _, _, _, _, _, _, _, _, h, _⟩ := h; exact h.len
theorem TX.fr {W W' : World} {B t lim : Nat} {l : List Nat} {S : Nat → Prop} (h : TX W B t l lim) (hf : Fr S W W') (hS : ∀ q, S q → ¬ TrB W q) : TX W' B t l lim := by
  obtain ⟨m, p, ad, rows, free, cv, fv, root, tk, h, hm, hb⟩ := h
  obtain ⟨a, b, c, d, hx⟩ := id hm
  refine ⟨m, p, ad, rows, free, cv, fv, root, tk, h.fr hf (fun e => hS _ e ⟨_, _, h.blk, .inl rfl⟩) (fun e => hS _ e ⟨_, _, h.pl.blk, .inr (.inr (.inl rfl))⟩) (fun q hq e => ?_) (fun q hq e => ?_) (fun q hq e => ?_), hm.fr hf (fun e => hS _ e ⟨_, _, hx, .inr (.inl rfl)⟩), hb⟩
  · obtain ⟨_, hc⟩ := own_blk h.pl.own q hq
    exact hS _ e ⟨_, _, hc, .inr (.inr (.inr (.inl rfl)))⟩
  · obtain ⟨_, hc⟩ := own_blk (Kd.own_of_R h.pl.fre) q hq
    exact hS _ e ⟨_, _, hc, .inr (.inr (.inr (.inr rfl)))⟩
  · obtain ⟨_, _, hc⟩ := hq
    exact hS _ e ⟨_, _, hc, .inr (.inr (.inr (.inr rfl)))⟩
theorem TX.nw {W W' : World} {B t lim : Nat} {l : List Nat} (h : TX W B t l lim) (hf : Nw W W') : TX W' B t l lim := h.fr hf (fun _ h => h.elim)
theorem FT.of_one {B m : Nat} {W W' : World} {tk : Int} (hm : MT W m tk) (hB : B ≤ m) (h : Fr (One m) W W') : FT B W W' := h.mono (fun q _ e => by
  obtain ⟨a, b, c, d, hx⟩ := hm
  rw [show q = m from e]
  exact ⟨hB, _, _, hx, .inr (.inl rfl)⟩)
theorem tx_new (lim : Nat) (w : World) (hl : lim ≤ 1048576) :
    Calls Tryd.prog 10 #[.int .i64 lim] w fun e w' => ∃ t, e = .returned (.tuple #[.pointer (some ⟨t, 0, none⟩), .int .i64 0]) ∧ TX w' w.heap.size t [] lim ∧ Nw w w' := by
  refine (tnew_ok' lim w hl).mono ?_
  rintro e w' ⟨t, m, p, rfl, h1, h2, h3, h4, h5, h6⟩
  exact ⟨t, rfl, ⟨m, p, _, _, _, _, _, _, 0, h4, h5, h1, h2, h3, fun q hq => (by cases hq), fun q hq => (by cases hq)⟩, h6⟩
theorem tx_next (B t lim : Nat) (l : List Nat) (w : World) (h : TX w B t l lim) (hT : Tb w) (k : Nat) (hk : k < 18446744073709551616) :
    Calls Tryd.prog 14 #[.pointer (some ⟨t, 0, none⟩), .int .u64 k] w fun e w' => e = .returned (nxtV l k) ∧ TX w' B t l lim ∧ FT B w w' := by
  obtain ⟨m, p, ad, rows, free, cv, fv, root, tk, h, hm, hb⟩ := h
  refine (tnext_calls t m p lim root l ad rows free cv fv tk w h hm k hk hT).mono ?_
  rintro e w' ⟨rfl, h1, ⟨tk', _, _, h2⟩, h3⟩
  exact ⟨rfl, ⟨m, p, ad, rows, free, cv, fv, root, tk', h1, h2, hb⟩, FT.of_one hm hb.2.1 h3⟩
theorem tx_prev (B t lim : Nat) (l : List Nat) (w : World) (h : TX w B t l lim) (k : Nat) (hk : k < 18446744073709551616) :
    Calls Tryd.prog 15 #[.pointer (some ⟨t, 0, none⟩), .int .u64 k] w fun e w' => e = .returned (prvV l k) ∧ TX w' B t l lim ∧ FT B w w' := by
  obtain ⟨m, p, ad, rows, free, cv, fv, root, tk, h, hm, hb⟩ := h
  refine (tprev_calls t m p lim root l ad rows free cv fv tk w h hm k hk).mono ?_
  rintro e w' ⟨rfl, h1, ⟨tk', _, _, h2⟩, h3⟩
  exact ⟨rfl, ⟨m, p, ad, rows, free, cv, fv, root, tk', h1, h2, hb⟩, FT.of_one hm hb.2.1 h3⟩
theorem tx_has (B t lim : Nat) (l : List Nat) (w : World) (h : TX w B t l lim) (k : Nat) (hk : k < 18446744073709551616) :
    Calls Tryd.prog 26 #[.pointer (some ⟨t, 0, none⟩), .int .u64 k] w fun e w' => e = .returned (.bool (decide (k ∈ l))) ∧ TX w' B t l lim ∧ FT B w w' := by
  obtain ⟨m, p, ad, rows, free, cv, fv, root, tk, h, hm, hb⟩ := h
  refine (thas_calls t m p lim root l ad rows free cv fv tk w h hm k hk).mono ?_
  rintro e w' ⟨rfl, h1, ⟨tk', _, _, h2⟩, h3⟩
  exact ⟨rfl, ⟨m, p, ad, rows, free, cv, fv, root, tk', h1, h2, hb⟩, FT.of_one hm hb.2.1 h3⟩
/-- What Insert answers, and what it leaves. -/
def insE (lim : Nat) (l : List Nat) (k : Nat) : Nat × List Nat := if k ∈ l then (4, l) else if used (insS l k) ≤ lim then (0, insS l k) else (5, l)
theorem tx_insert (B t lim : Nat) (l : List Nat) (w : World) (h : TX w B t l lim) (hBw : B ≤ w.heap.size) (k : Nat) (hk : k < 18446744073709551616) (hlen : l.length + 1 ≤ 1000000) :
    Calls Tryd.prog 23 #[.pointer (some ⟨t, 0, none⟩), .int .u64 k] w fun e w' => e = .returned (.int .i64 (insE lim l k).1) ∧ TX w' B t (insE lim l k).2 lim ∧ FT B w w' := by
  obtain ⟨m, p, ad, rows, free, cv, fv, root, tk, h, hm, hb⟩ := h
  unfold insE
  by_cases hkl : k ∈ l
  · rw [if_pos hkl]
    refine (tins_there t m p lim root l ad rows free cv fv tk w h hm k hk hkl).mono ?_
    rintro e w' ⟨rfl, h1, ⟨tk', _, _, h2⟩, h3⟩
    exact ⟨rfl, ⟨m, p, ad, rows, free, cv, fv, root, tk', h1, h2, hb⟩, FT.of_one hm hb.2.1 h3⟩
  · rw [if_neg hkl]
    by_cases hu : used (insS l k) ≤ lim
    · rw [if_pos hu]
      refine (tins_new t m p lim root l ad rows free cv fv tk w h hm k hk hkl hlen hu).mono ?_
      rintro e w' ⟨rfl, ad', rows', free', cv', fv', root', h1, hx1, hx2, ⟨tk', _, _, h2⟩, h3⟩
      obtain ⟨b1, b2, b3, b4, b5⟩ := hb
      refine ⟨rfl, ⟨m, p, ad', rows', free', cv', fv', root', tk', h1, h2, b1, b2, b3, fun q hq => ?_, fun q hq => ?_⟩, h3.mono (fun q hql e => ?_)⟩
      · rcases hx1 q hq with e | e
        · exact b4 q e
        · omega
      · rcases hx2 q hq with e | e
        · exact b5 q e
        · omega
      · rcases e with rfl | rfl | rfl | e | e
        · exact ⟨b1, _, _, h.blk, .inl rfl⟩
        · obtain ⟨a, b, c, d, hx⟩ := hm
          exact ⟨b2, _, _, hx, .inr (.inl rfl)⟩
        · exact ⟨b3, _, _, h.pl.blk, .inr (.inr (.inl rfl))⟩
        · obtain ⟨_, hc⟩ := own_blk h.pl.own q e
          exact ⟨b4 q e, _, _, hc, .inr (.inr (.inr (.inl rfl)))⟩
        · obtain ⟨_, hc⟩ := own_blk (Kd.own_of_R h.pl.fre) q e
          exact ⟨b5 q e, _, _, hc, .inr (.inr (.inr (.inr rfl)))⟩
    · rw [if_neg hu]
      refine (tins_full t m p lim root l ad rows free cv fv tk w h hm k hk hkl (by omega)).mono ?_
      rintro e w' ⟨rfl, h1, ⟨tk', _, _, h2⟩, h3⟩
      exact ⟨rfl, ⟨m, p, ad, rows, free, cv, fv, root, tk', h1, h2, hb⟩, FT.of_one hm hb.2.1 h3⟩
theorem tx_len (B t lim : Nat) (l : List Nat) (w : World) (h : TX w B t l lim) :
    Calls Tryd.prog 30 #[.pointer (some ⟨t, 0, none⟩)] w fun e w' => e = .returned (.int .i64 l.length) ∧ w = w' := by
  obtain ⟨m, p, ad, rows, free, cv, fv, root, tk, h, hm, hb⟩ := h
  exact tlen_calls t m p lim root l ad rows free cv fv w h
theorem tx_used (B t lim : Nat) (l : List Nat) (w : World) (h : TX w B t l lim) :
    Calls Tryd.prog 19 #[.pointer (some ⟨t, 0, none⟩)] w fun e w' => e = .returned (.int .i64 (used l : Nat)) ∧ w = w' := by
  obtain ⟨m, p, ad, rows, free, cv, fv, root, tk, h, hm, hb⟩ := h
  exact tused_calls t m p lim root l ad rows free cv fv w h
theorem tx_all (B t lim : Nat) (l : List Nat) (w : World) (h : TX w B t l lim) (hT : Tb w) (k : Nat) (hk1 : 1 ≤ k) (hk2 : k ≤ 100000) :
    Calls Tryd.prog 32 #[.pointer (some ⟨t, 0, none⟩), .int .i64 k] w fun e w' => ∃ A c, e = .returned (.slice A (l.take k).length c) ∧ Kd.C (Kd.int .u64) w' A (l.take k).length (keysI (l.take k)) ∧ (l.take k).length ≤ c ∧ TX w' B t l lim ∧ FT B w w' := by
  obtain ⟨m, p, ad, rows, free, cv, fv, root, tk, h, hm, hb⟩ := h
  refine (lall_calls t m p lim root l ad rows free cv fv tk w h hm hT k hk1 hk2).mono ?_
  rintro e w' ⟨A, c, rfl, h1, h2, h3, ⟨tk', h4⟩, h5⟩
  exact ⟨A, c, rfl, h1, h2, ⟨m, p, ad, rows, free, cv, fv, root, tk', h3, h4, hb⟩, FT.of_one hm hb.2.1 h5⟩
end Go.Proofs.YtnhdcefoigmjpaaDoor

