/-
  Delete, as the law sees it.
-/
import Derived.Test.YtnhdcefoigmjpaaDoorTrDelete

namespace Go.Proofs.YtnhdcefoigmjpaaDoor
open Go.RowKit Go.Proofs.YtnhdcefoigmjpaaDoorW.PrintWords Go.Proofs.YtnhdcefoigmjpaaDoorW.PrintMore
attribute [local go_sem] max2_int min2_int max_two min_two
set_option linter.unusedVariables false
set_option linter.unusedSimpArgs false

set_option maxRecDepth 100000 in
set_option maxHeartbeats 1000000 in
theorem tdel_none (t m p lim root : Nat) (l : List Nat) (ad : Ad) (rows : List (Option Nd)) (free : List Nat) (cv fv : Value) (tk : Int) (w : World) (h : TI w t m p l lim ad rows free cv fv root) (hm : MT w m tk) (k : Nat) (hk : k < 18446744073709551616) (hkl : k ∉ l) :
    Calls Tryd.prog 25 #[.pointer (some ⟨t, 0, none⟩), .int .u64 k] w fun e w' => e = .returned (.int .i64 3) ∧ TI w' t m p l lim ad rows free cv fv root ∧ (∃ tk' : Int, 0 ≤ tk' ∧ tk' ≤ 11 ∧ MT w' m tk') ∧ Fr (One m) w w' := by
  have HH := Lib.hid (thas_calls t m p lim root l ad rows free cv fv tk w h hm k hk)
  have HKF : Hid (decide (k ∈ l) = false) := Lib.hid (decide_eq_false hkl)
  clear h hm hkl
  go_enter Tryd.func25, Tryd.ntmps25
  go_wp2_with (first
    | (go_at_call 26; refine HH.out.mono ?_; rintro e w1 ⟨rfl, ht1, hm1, hf1⟩; rw [HKF.out]))
  go_ret
  exact ⟨rfl, ht1, hm1, hf1⟩
/-- What Delete answers, and what it leaves. -/
def delE (l : List Nat) (k : Nat) : Nat × List Nat := if k ∈ l then (0, dropS l k) else (3, l)
theorem tx_delete (B t lim : Nat) (l : List Nat) (w : World) (h : TX w B t l lim) (hT : Tb w) (hg : 0 < B) (hBw : B ≤ w.heap.size) (k : Nat) (hk : k < 18446744073709551616) :
    Calls Tryd.prog 25 #[.pointer (some ⟨t, 0, none⟩), .int .u64 k] w fun e w' => e = .returned (.int .i64 (delE l k).1) ∧ TX w' B t (delE l k).2 lim ∧ FT B w w' := by
  obtain ⟨m, p, ad, rows, free, cv, fv, root, tk, h, hm, hb⟩ := h
  unfold delE
  by_cases hkl : k ∈ l
  · rw [if_pos hkl]
    have hup := up_dropS h.up k
    have hkd : k ∉ dropS l k := fun h => by rw [mem_dropS] at h; exact h.2 rfl
    have e := ins_drop h.up hkl
    obtain ⟨b1, b2, b3, b4, b5⟩ := hb
    refine (tdel_there t m p lim root (dropS l k) k ad rows free cv fv tk w (by rw [e]; exact h) hm hup hkd hk hT (fun e => ?_)).mono ?_
    · rcases e with e | e | e
      · omega
      · have := b4 _ e; omega
      · have := b5 _ e; omega
    rintro e w' ⟨rfl, rows', free', fv', h1, hx2, ⟨tk', _, _, h2⟩, h3⟩
    refine ⟨rfl, ⟨m, p, ad, rows', free', cv, fv', root, tk', h1, h2, b1, b2, b3, b4, fun q hq => ?_⟩, h3.mono (fun q hql e => ?_)⟩
    · rcases hx2 q hq with e | e
      · exact b5 q e
      · omega
    · rcases e with rfl | rfl | rfl | e | e
      · exact ⟨b1, _, _, h.blk, .inl rfl⟩
      · obtain ⟨a, b, c, d, hx⟩ := hm
        exact ⟨b2, _, _, hx, .inr (.inl rfl)⟩
      · exact ⟨b3, _, _, h.pl.blk, .inr (.inr (.inl rfl))⟩
      · obtain ⟨_, hc⟩ := own_blk h.pl.own q e
        exact ⟨b4 q e, _, _, hc, .inr (.inr (.inr (.inl rfl)))⟩
      · obtain ⟨_, hc⟩ := own_blk (Kd.own_of_R h.pl.fre) q e
        exact ⟨b5 q e, _, _, hc, .inr (.inr (.inr (.inr rfl)))⟩
  · rw [if_neg hkl]
    refine (tdel_none t m p lim root l ad rows free cv fv tk w h hm k hk hkl).mono ?_
    rintro e w' ⟨rfl, h1, ⟨tk', _, _, h2⟩, h3⟩
    exact ⟨rfl, ⟨m, p, ad, rows, free, cv, fv, root, tk', h1, h2, hb⟩, FT.of_one hm hb.2.1 h3⟩
end Go.Proofs.YtnhdcefoigmjpaaDoor
