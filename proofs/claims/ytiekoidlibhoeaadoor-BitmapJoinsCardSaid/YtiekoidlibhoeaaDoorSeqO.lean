/-
  An iterator that itself ranges over another iterator: its contract asks of its caller that the caller's own facts abide the turn of whatever is no cells and was laid since the call; and the law for a range over such an iterator.
-/
import Derived.RangeFuncNested
import Derived.RangeFuncBound
import Derived.RangeFuncCalls
namespace Go.Proofs.YtiekoidlibhoeaaDoor
open Go Go.RowKit

variable {F : Fence} {n : Nat} {P : Program}

/-- The contract: J abides the turn of any block that is no cells, from the call's heap on; each round leaves such blocks as they were. -/
def SeqO {α : Type} (F : Fence) (n : Nat) (P : Program) (g : Nat) (lb : Array Value) (encs : α → Array Value) (Kp : World → World → Prop) (S Sp : List α → Prop) (N : Nat) (w : World) : Prop :=
  ∀ (l : Nat) (J Jx : List α → World → Prop) (W : World), Below w.heap.size w W → OwnFrom W.heap.size J → OwnFrom W.heap.size Jx →
    (∀ pre x W1, J pre W1 → pre.length < N → YieldAt F (n - 1) P l (encs x) W1 fun e W' =>
      KeepsFrom W.heap.size W1 W' ∧ ((e = .returned (.bool true) ∧ J (pre ++ [x]) W' ∧ Kp W1 W') ∨ (e = .returned (.bool false) ∧ Jx (pre ++ [x]) W'))) →
    J [] W →
    CallsIn F n P g (#[.func (.yield l) #[] #[]] ++ lb) W fun e W' => (∃ v, e = .returned v) ∧ ((∃ xs, S xs ∧ J xs W') ∨ (∃ pre, Sp pre ∧ Jx pre W'))

theorem keepsFrom_put {B l : Nat} {W : World} {o : Obj} (h : l < B) : KeepsFrom B W (W.putObj l o) :=
  ⟨by simp, fun k o' hk hb _ => (World.putObj_heap_other (by omega)).trans hb⟩
theorem keepsFrom_mono {B C : Nat} {W W' : World} (h : KeepsFrom B W W') (hBC : B ≤ C) : KeepsFrom C W W' := ⟨h.size, fun k o hk => h.same k o (Nat.le_trans hBC hk)⟩
theorem RoundIn.inRound' {F : Fence} {n : Nat} {P : Program} {l l' : Nat} {f : FuncId} {tmps : Array Value} {assign body : Code} {w : World} {R : Ending → World → Prop} (h : RoundIn F n P l f tmps assign body w R) : RoundIn (F.inRound l') n P l f tmps assign body w R := h

theorem wpIn_rangeFunc_seqO {α : Type} {g : Operand} {ps : Array Tmp} {assign body : Code} {Q : Exit → Act → World → Prop} {a : Act} {w : World}
    (hro : F.round = none) (h1 : 1 ≤ n) {gf : Nat} {lb : Array Value} (hg : a.eval g = .func (.func gf) #[] lb) (hFg : F.fn gf) (eg : ∀ args w, (callFunc gf args).run P w = .ok (.enter gf args) w)
    {encs : α → Array Value} {Kp : World → World → Prop} {S Sp : List α → Prop} {N : Nat} {w0 : World} (hseq : SeqO F (n - 1) P gf lb encs Kp S Sp N w0)
    (hKt : ∀ {A B C : World}, Kp A B → Kp B C → Kp A C) (hKb : ∀ (W : World) (l : Nat) (o o' : Obj), w.heap.size ≤ l → W.heap[l]? = some o → o.isCells = false → o.isWalk = false → Kp W (W.putObj l o'))
    (hb0 : Below w0.heap.size w0 w) (hps : ∀ x, (encs x).size = ps.size)
    (I : List α → World → Prop) (Ix : Code → List α → World → Prop) (hI : OwnFrom w.heap.size I) (hIx : ∀ c, OwnFrom w.heap.size (Ix c)) (h0 : I [] w) (a₁ : α → Act)
    (hassign : ∀ (l : Nat) (x : α) (W : World) (K : Act → World → Prop), K (a₁ x) W →
      assign.wpIn (F.inRound l) (n - 1 - 1) P (Exit.then K (fun _ _ _ => False)) { tmps := (ps.zip (encs x)).foldl (fun t (p, v) => t.setIfInBounds p v) a.tmps, defers := [] } W)
    (hbody : ∀ (l : Nat) (pre : List α) (x : α) (W : World), I pre W → pre.length < N → body.wpIn (F.inRound l) (n - 1 - 1) P (ownPostG w.heap.size Kp I Ix (pre ++ [x]) W) (a₁ x) W)
    (hdone : ∀ (D : Nat) (xs : List α) (W : World), w.heap.size ≤ D → S xs → I xs W → W.heap[D]? = some (.deferred (some [])) → Q .normal { a with defers := { target := .collected D, args := #[] } :: a.defers } W)
    (hstop : ∀ (D : Nat) (c : Code) (pre : List α) (W : World), w.heap.size ≤ D → Sp pre → Ix c pre W → W.heap[D]? = some (.deferred (some [])) → c.wpIn F n P Q { a with defers := { target := .collected D, args := #[] } :: a.defers } W) :
    (Code.rangeFunc g ps assign body).wpIn F n P Q a w := by
  refine wpIn_rangeFunc fun fn hfn => ?_
  obtain ⟨D, hD⟩ : ∃ D, D = w.heap.size := ⟨_, rfl⟩
  let rec_ : LoopState → Option Code → Loop := fun st pe => { state := st, pending := pe, fn, tmps := a.tmps, params := ps, assign, body, defers := w.heap.size }
  obtain ⟨W1, hW1⟩ : ∃ W1, W1 = (w.alloc (.deferred (some []))).alloc (.loop (rec_ .ready none)) := ⟨_, rfl⟩
  have s1 : W1.heap.size = D + 2 := by rw [hW1, hD]; simp
  have rL : W1.heap[D + 1]? = some (.loop (rec_ .ready none)) := by
    rw [hW1, hD]; have := World.alloc_heap_new (w.alloc (.deferred (some []))) (.loop (rec_ .ready none)); rwa [World.size_alloc] at this
  have rD : W1.heap[D]? = some (.deferred (some [])) := by
    rw [hW1, hD]; exact (Below.heap_alloc _ _ _ (by simp)).trans (World.alloc_heap_new w _)
  have enter : (Instr.enterLoop fn a.tmps ps assign body F.round).run P w = .ok (D + 1, [{ target := .collected D, args := #[] }]) W1 := by
    rw [hro, hW1, hD]; exact run_enterLoop_outer _ _ _ _ _
  rw [← hD] at hI hIx hKb hdone hstop hbody
  -- what the iterator's contract is asked at
  let J : List α → World → Prop := fun pre W => (I pre W ∧ W.heap[D + 1]? = some (.loop (rec_ .ready none))) ∧ W.heap[D]? = some (.deferred (some []))
  let Jx : List α → World → Prop := fun pre W => ∃ c, (Ix c pre W ∧ W.heap[D + 1]? = some (.loop (rec_ .done (some c)))) ∧ W.heap[D]? = some (.deferred (some []))
  have keep : ∀ {A B : World} {row : Option Nat} {k : Nat} {o : Obj}, A.grownBy B row → (∀ r, row = some r → W1.heap.size ≤ r ∧ ∃ o : Obj, A.heap[r]? = some o ∧ o.isCells = false) → k < D + 2 → A.heap[k]? = some o → B.heap[k]? = some o :=
    fun hgr hr hk hb => (hgr.block _ (Array.getElem?_eq_some_iff.1 hb).1 (fun e => by have := (hr _ e.symm).1; omega)).trans hb
  have up : ∀ {β : Type} {T : β → World → Prop}, OwnFrom D T → OwnFrom W1.heap.size T := fun h s A B row hs hgr hr => h s A B row hs hgr (fun r e => ⟨by have := (hr r e).1; omega, (hr r e).2⟩)
  have oJ : OwnFrom W1.heap.size J := fun s A B row hs hgr hr => ⟨⟨up hI s A B row hs.1.1 hgr hr, keep hgr hr (by omega) hs.1.2⟩, keep hgr hr (by omega) hs.2⟩
  have oJx : OwnFrom W1.heap.size Jx := fun s A B row ⟨c, hs⟩ hgr hr => ⟨c, ⟨up (hIx c) s A B row hs.1.1 hgr hr, keep hgr hr (by omega) hs.1.2⟩, keep hgr hr (by omega) hs.2⟩
  have jStart : J [] W1 := ⟨⟨by rw [hW1]; rw [hD] at hI; exact hI.alloc _ (hI.alloc _ h0), rL⟩, rD⟩
  have below1 : Below w0.heap.size w0 W1 := by
    rw [hW1]; exact hb0.trans ((((Below.refl _ w).alloc (Nat.le_refl _) _).alloc (by simp) _).mono hb0.size)
  refine ⟨D + 1, [{ target := .collected D, args := #[] }], W1, { target := .fn (.func gf) lb, args := #[.func (.yield (D + 1)) #[] #[]] }, W1, gf, #[.func (.yield (D + 1)) #[] #[]] ++ lb, W1, enter, ?_, ?_, ?_, fun _ => h1, ?_⟩
  · simp only [resolve, hg]; simp [go_sem]
  · intro f' hf'; simp [Target.leads] at hf'; subst hf'; exact hFg
  · simp [invoke, go_sem, eg]
  refine (hseq (D + 1) J Jx W1 below1 oJ oJx ?round jStart).mono ?after
  case after =>
    rintro e W2 ⟨⟨v, rfl⟩, h⟩
    rcases h with ⟨xs, hS, ⟨hi, hl⟩, hd⟩ | ⟨pre, hSp, c, ⟨hi, hl⟩, hd⟩
    · refine ⟨none, _, run_endLoop (P := P) hl (by simp [rec_]), ?_⟩
      exact hdone D xs _ (Nat.le_refl _) hS (hI.putObj _ hi (by omega) hl rfl) ((World.putObj_heap_other (by omega)).trans hd)
    · refine ⟨some c, _, run_endLoop (P := P) hl (by simp [rec_]), ?_⟩
      exact hstop D c pre _ (Nat.le_refl _) hSp ((hIx c).putObj _ hi (by omega) hl rfl) ((World.putObj_heap_other (by omega)).trans hd)
  case round =>
    rintro pre x W ⟨⟨hi, hl⟩, hd⟩ hlen
    have hlt : D + 1 < W.heap.size := (Array.getElem?_eq_some_iff.1 hl).1
    refine ⟨fn, _, assign, body, run_yield (P := P) (args := encs x) hl (hps x), roundIn_of_wpIn hfn (hassign _ x W _ ⟨_, run_beginRound hl rfl, ?_⟩)⟩
    obtain ⟨Wb, hWb⟩ : ∃ Wb, Wb = W.putObj (D + 1) (.loop { rec_ .ready none with state := .busy }) := ⟨_, rfl⟩
    rw [← hWb]
    have hlb : Wb.heap[D + 1]? = some (.loop { rec_ .ready none with state := .busy }) := by rw [hWb]; exact World.putObj_heap_same hlt
    have hdb : Wb.heap[D]? = some (.deferred (some [])) := by rw [hWb]; exact (World.putObj_heap_other (by omega)).trans hd
    have hib : I pre Wb := by rw [hWb]; exact hI.putObj _ hi (by omega) hl rfl
    have kb : Kp W Wb := by rw [hWb]; exact hKb _ _ _ _ (by omega) hl rfl rfl
    have fb : KeepsFrom W1.heap.size W Wb := by rw [hWb]; exact keepsFrom_put (by omega)
    refine wpIn_mono (hbody _ pre x Wb hib hlen) ?_
    have fin : ∀ (jump : Option Code) (W3 : World), KeepsFrom D Wb W3 → W3.heap[D + 1]? = some (.loop { rec_ .ready none with state := .busy }) ∧
        (Instr.endRound (D + 1) jump).run P W3 = .ok (.bool jump.isNone) (W3.putObj (D + 1) (.loop (rec_ (if jump.isNone then .ready else .done) jump))) ∧
        KeepsFrom W1.heap.size W (W3.putObj (D + 1) (.loop (rec_ (if jump.isNone then .ready else .done) jump))) ∧
        (W3.putObj (D + 1) (.loop (rec_ (if jump.isNone then .ready else .done) jump))).heap[D + 1]? = some (.loop (rec_ (if jump.isNone then .ready else .done) jump)) ∧
        (W3.putObj (D + 1) (.loop (rec_ (if jump.isNone then .ready else .done) jump))).heap[D]? = some (.deferred (some [])) := fun jump W3 hk => by
      have hl3 := hk.same _ _ (by omega) hlb rfl
      exact ⟨hl3, run_endRound (P := P) jump hl3, (fb.trans (keepsFrom_mono hk (by omega))).trans (keepsFrom_put (by omega)), World.putObj_heap_same (Array.getElem?_eq_some_iff.1 hl3).1, (World.putObj_heap_other (by omega)).trans (hk.same _ _ (Nat.le_refl _) hdb rfl)⟩
    have leave : ∀ (c : Code) (W3 : World), KeepsFrom D Wb W3 → Ix c (pre ++ [x]) W3 → ∃ v w', (Instr.endRound (D + 1) (some c)).run P W3 = .ok v w' ∧
        (KeepsFrom W1.heap.size W w' ∧ ((Ending.returned v = .returned (.bool true) ∧ J (pre ++ [x]) w' ∧ Kp W w') ∨ (Ending.returned v = .returned (.bool false) ∧ Jx (pre ++ [x]) w'))) := fun c W3 hk hx => by
      obtain ⟨hl3, hr, hkf, hl4, hd4⟩ := fin (some c) W3 hk
      exact ⟨_, _, hr, hkf, .inr ⟨rfl, c, ⟨(hIx c).putObj _ hx (by omega) hl3 rfl, hl4⟩, hd4⟩⟩
    rintro e a3 W3 hp
    cases e with
    | normal =>
      obtain ⟨hk, hkp, hi3⟩ := hp
      obtain ⟨hl3, hr, hkf, hl4, hd4⟩ := fin none W3 hk
      exact ⟨_, _, hr, hkf, .inl ⟨rfl, ⟨⟨hI.putObj _ hi3 (by omega) hl3 rfl, hl4⟩, hd4⟩, hKt (hKt kb hkp) (hKb _ _ _ _ (by omega) hl3 rfl rfl)⟩⟩
    | ret => exact leave .ret W3 hp.1 hp.2
    | exit id => exact leave (.exit id) W3 hp.1 hp.2
    | goto t => exact leave (.goto t) W3 hp.1 hp.2
    | panic ch => exact hp.elim
    | outgrown => exact hp.elim

end Go.Proofs.YtiekoidlibhoeaaDoor
