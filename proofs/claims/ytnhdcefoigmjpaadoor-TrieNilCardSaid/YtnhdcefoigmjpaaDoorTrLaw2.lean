/-
  The walk of the law TrieNil.
-/
import Derived.Test.YtnhdcefoigmjpaaDoorTrNil

namespace Go.Proofs.YtnhdcefoigmjpaaDoor
open Go.RowKit Go.Proofs.YtnhdcefoigmjpaaDoorW.PrintWords Go.Proofs.YtnhdcefoigmjpaaDoorW.PrintMore
attribute [local go_sem] max2_int min2_int max_two min_two
set_option linter.unusedVariables false
set_option linter.unusedSimpArgs false
set_option maxRecDepth 100000 in
set_option maxHeartbeats 4000000 in
theorem tnil_calls (k : Nat) (lim : Int) (w : World) (hT : Tb w) :
    Calls Tryd.prog 7 #[.int .u64 (k : Nat), .int .i64 lim] w fun e w' => e = .returned (.bool true) ∧ Nw w w' := by
  have HAW := Lib.hid (tawake_calls w hT)
  clear hT
  by_cases hl : 0 ≤ lim ∧ lim ≤ 1048576
  · obtain ⟨n, rfl⟩ : ∃ n : Nat, lim = (n : Nat) := ⟨lim.toNat, by omega⟩
    have hn : n ≤ 1048576 := by omega
    have hn' : (n : Int) ≤ 1048576 := by omega
    have HNE := Lib.hid (fun w' => tx_new n w' hn)
    clear hl
    go_enter Tryd.func7, Tryd.ntmps7
    go_wp2_with (first
      | (go_at_call 9; refine HAW.out.mono ?_; rintro e w1 ⟨rfl, hf⟩; have HN := Lib.hid hf; clear hf)
      | (go_at_call 10; refine (HNE.out _).mono ?_; rintro e w2 ⟨t, rfl, hX, hf⟩; have HN := Lib.hid (HN.out.trans hf); clear hX hf)
      | (go_at_call 14; refine (nnext k _).mono ?_; rintro e w' ⟨rfl, rfl⟩)
      | (go_at_call 15; refine (nprev k _).mono ?_; rintro e w' ⟨rfl, rfl⟩)
      | (go_at_call 27; refine (nmin _).mono ?_; rintro e w3 ⟨rfl, hf⟩; have HN := Lib.hid (HN.out.trans hf); clear hf)
      | (go_at_call 28; refine (nmax _).mono ?_; rintro e w3 ⟨rfl, hf⟩; have HN := Lib.hid (HN.out.trans hf); clear hf)
      | (go_at_call 29; refine (nclear _).mono ?_; rintro e w' ⟨rfl, rfl⟩)
      | (go_at_call 23; refine (nins k _).mono ?_; rintro e w' ⟨rfl, rfl⟩)
      | (go_at_call 25; refine (ndel k _).mono ?_; rintro e w' ⟨rfl, rfl⟩)
      | (go_at_call 26; refine (nhas k _).mono ?_; rintro e w' ⟨rfl, rfl⟩)
      | (go_at_call 30; refine (nlen _).mono ?_; rintro e w' ⟨rfl, rfl⟩)
      | (go_at_call 19; refine (nused _).mono ?_; rintro e w' ⟨rfl, rfl⟩)
      | (go_at_call 31; refine (nlimit _).mono ?_; rintro e w' ⟨rfl, rfl⟩)
      | (go_at_call 32; refine (nall_calls 9 _).mono ?_; rintro e w4 ⟨rfl, hf⟩; have HN := Lib.hid (HN.out.trans hf); clear hf))
    go_ret
    exact ⟨rfl, HN.out⟩
  · have HBA := Lib.hid (fun w' => tnew_bad lim w' (by omega))
    have hb : (decide (0 ≤ lim) && decide (lim ≤ 1048576)) = false := by simp; omega
    rcases Int.lt_or_le lim 0 with h0 | h0
    · have h1 : ¬ 0 ≤ lim := by omega
      clear hl hb
      go_enter Tryd.func7, Tryd.ntmps7
      go_wp2_with (first
        | (go_at_call 9; refine HAW.out.mono ?_; rintro e w1 ⟨rfl, hf⟩; have HN := Lib.hid hf; clear hf)
        | (go_at_call 10; refine (HBA.out _).mono ?_; rintro e w2 ⟨rfl, hf⟩; have HN := Lib.hid (HN.out.trans hf); clear hf)
        | (go_at_call 14; refine (nnext k _).mono ?_; rintro e w' ⟨rfl, rfl⟩)
        | (go_at_call 15; refine (nprev k _).mono ?_; rintro e w' ⟨rfl, rfl⟩)
        | (go_at_call 27; refine (nmin _).mono ?_; rintro e w3 ⟨rfl, hf⟩; have HN := Lib.hid (HN.out.trans hf); clear hf)
        | (go_at_call 28; refine (nmax _).mono ?_; rintro e w3 ⟨rfl, hf⟩; have HN := Lib.hid (HN.out.trans hf); clear hf)
        | (go_at_call 29; refine (nclear _).mono ?_; rintro e w' ⟨rfl, rfl⟩)
        | (go_at_call 23; refine (nins k _).mono ?_; rintro e w' ⟨rfl, rfl⟩)
        | (go_at_call 25; refine (ndel k _).mono ?_; rintro e w' ⟨rfl, rfl⟩)
        | (go_at_call 26; refine (nhas k _).mono ?_; rintro e w' ⟨rfl, rfl⟩)
        | (go_at_call 30; refine (nlen _).mono ?_; rintro e w' ⟨rfl, rfl⟩)
        | (go_at_call 19; refine (nused _).mono ?_; rintro e w' ⟨rfl, rfl⟩)
        | (go_at_call 31; refine (nlimit _).mono ?_; rintro e w' ⟨rfl, rfl⟩)
        | (go_at_call 32; refine (nall_calls 9 _).mono ?_; rintro e w4 ⟨rfl, hf⟩; have HN := Lib.hid (HN.out.trans hf); clear hf))
      go_ret
      exact ⟨rfl, HN.out⟩
    · have h1 : ¬ lim ≤ 1048576 := by omega
      clear hl hb
      go_enter Tryd.func7, Tryd.ntmps7
      go_wp2_with (first
        | (go_at_call 9; refine HAW.out.mono ?_; rintro e w1 ⟨rfl, hf⟩; have HN := Lib.hid hf; clear hf)
        | (go_at_call 10; refine (HBA.out _).mono ?_; rintro e w2 ⟨rfl, hf⟩; have HN := Lib.hid (HN.out.trans hf); clear hf)
        | (go_at_call 14; refine (nnext k _).mono ?_; rintro e w' ⟨rfl, rfl⟩)
        | (go_at_call 15; refine (nprev k _).mono ?_; rintro e w' ⟨rfl, rfl⟩)
        | (go_at_call 27; refine (nmin _).mono ?_; rintro e w3 ⟨rfl, hf⟩; have HN := Lib.hid (HN.out.trans hf); clear hf)
        | (go_at_call 28; refine (nmax _).mono ?_; rintro e w3 ⟨rfl, hf⟩; have HN := Lib.hid (HN.out.trans hf); clear hf)
        | (go_at_call 29; refine (nclear _).mono ?_; rintro e w' ⟨rfl, rfl⟩)
        | (go_at_call 23; refine (nins k _).mono ?_; rintro e w' ⟨rfl, rfl⟩)
        | (go_at_call 25; refine (ndel k _).mono ?_; rintro e w' ⟨rfl, rfl⟩)
        | (go_at_call 26; refine (nhas k _).mono ?_; rintro e w' ⟨rfl, rfl⟩)
        | (go_at_call 30; refine (nlen _).mono ?_; rintro e w' ⟨rfl, rfl⟩)
        | (go_at_call 19; refine (nused _).mono ?_; rintro e w' ⟨rfl, rfl⟩)
        | (go_at_call 31; refine (nlimit _).mono ?_; rintro e w' ⟨rfl, rfl⟩)
        | (go_at_call 32; refine (nall_calls 9 _).mono ?_; rintro e w4 ⟨rfl, hf⟩; have HN := Lib.hid (HN.out.trans hf); clear hf))
      go_ret
      exact ⟨ret_bool (by rw [decide_eq_false (by omega)]; rfl), HN.out⟩
theorem tnil_row (x0 x1 : Int) (w : World) (wf0 : (Lit.int .u64 x0).wf = true) (hT : Tb w) :
    Calls Tryd.prog 7 #[.int .u64 x0, .int .i64 x1] w fun e w' => e = .returned (.bool true) ∧ Nw w w' := by
  have hx := u64_bd wf0
  have := tnil_calls x0.toNat x1 w hT
  rw [show ((x0.toNat : Nat) : Int) = x0 by omega] at this
  exact this
end Go.Proofs.YtnhdcefoigmjpaaDoor
