/-
  strip's joined where nothing is to be joined, or lengths differ; Or, And.
-/
import Derived.Test.YtacaeahijecfeaaDoorStripJoin2
namespace Go.Proofs.YtacaeahijecfeaaDoor
open Go.RowKit Go.Shelf Go.Proofs.YtacaeahijecfeaaDoorW.PrintWords Go.Proofs.YtacaeahijecfeaaDoorW.PrintMore
set_option linter.unusedVariables false
set_option linter.unusedSimpArgs false

theorem joined_none (all : Bool) (w : World) :
    Calls Tryd.prog 51 #[.slice none 0 0, .bool all] w fun e w' => e = .returned (.tuple #[.pointer none, .int .i64 1]) ∧ Nw w w' := by
  go_enter Tryd.func51, Tryd.ntmps51
  go_wp2
  go_returns
  exact ⟨rfl, Fr.refl _ _⟩

set_option maxRecDepth 100000 in
set_option maxHeartbeats 4000000 in
theorem joined_bad (all : Bool) (g c p q n B : Nat) (X : Option Addr) (w : World) (h1 : w.cell? ⟨g, 0, none⟩ = some (.pointer (some ⟨p, 0, none⟩))) (h2 : w.cell? ⟨g, 1, none⟩ = some (.pointer X)) (hs : St w p q n B)
    (hX : X = none ∨ ∃ p2 q2 n2 B2, X = some ⟨p2, 0, none⟩ ∧ St w p2 q2 n2 B2 ∧ n2 ≠ n) :
    Calls Tryd.prog 51 #[.slice (some ⟨g, 0, none⟩) 2 c, .bool all] w fun e w' => e = .returned (.tuple #[.pointer none, .int .i64 1]) ∧ Nw w w' := by
  obtain ⟨cc, hh⟩ := hs.head
  have z2 : Hid (w.cell? ⟨p, 0, none⟩ = some (.slice (some ⟨q, 0, none⟩) n cc)) := Lib.hid (blk_cell hh 0)
  have H1 := Lib.hid h1
  have H2 := Lib.hid h2
  have HX : Hid (X = none ∨ ∃ p2 q2 n2 c2, X = some ⟨p2, 0, none⟩ ∧ w.cell? ⟨p2, 0, none⟩ = some (.slice (some ⟨q2, 0, none⟩) n2 c2) ∧ n2 ≠ n) := Lib.hid (by
    rcases hX with h | ⟨p2, q2, n2, B2, e, hs2, hne⟩
    · exact .inl h
    · obtain ⟨c2, hh2⟩ := hs2.head
      exact .inr ⟨p2, q2, n2, c2, e, blk_cell hh2 0, hne⟩)
  clear hX hs hh h1 h2
  go_enter Tryd.func51, Tryd.ntmps51
  go_wp2
  go_loopw [7, 15] (fun _ ii wr => ∃ j : Nat, j ≤ 1 ∧ ii = .int .i64 j ∧ Hid (Nw w wr)) (fun _ ii _ => 2 - (intOf ii).toNat)
  case atStart => exact ⟨0, Nat.zero_le _, rfl, Lib.hid (Fr.refl _ _)⟩
  case round =>
    obtain ⟨j, hj, rfl, HN⟩ := hrel
    have c1 := HN.out.cell H1.out (fun h => h)
    have c2 := HN.out.cell H2.out (fun h => h)
    have c3 := HN.out.cell z2.out (fun h => h)
    rcases (by omega : j = 0 ∨ j = 1) with rfl | rfl
    · go_wp2
      go_quiet (fail)
      go_wp2
      go_roundw
      case rel => exact ⟨1, by omega, by go_num, Lib.hid (HN.out.drewN _)⟩
      case measure => simp [intOf]
    · rcases HX.out with rfl | ⟨p2, q2, n2, d, rfl, hc, hne⟩
      · go_wp2
        go_quiet (fail)
        go_wp2
        go_returns
        exact ⟨rfl, HN.out.drewN _⟩
      · have c4 := HN.out.cell hc (fun h => h)
        have hne' : ¬ (n2 : Int) = n := by omega
        have t1 : ((n2 : Int) == (n : Int)) = false := by rw [beq_eq_false_iff_ne]; exact hne'
        have t2 : ((n2 : Int) != (n : Int)) = true := by rw [bne, t1]; rfl
        clear hne hc
        go_wp2
        go_quiet (fail)
        go_wp2
        go_returns
        exact ⟨rfl, HN.out.drewN _⟩

set_option maxRecDepth 100000 in
set_option maxHeartbeats 2000000 in
theorem sor_calls (g c n : Nat) (ps : List (Nat × Nat × Nat)) (w : World) (h : PR w g n ps) (h0 : 0 < ps.length) (hl : ps.length ≤ 1000) (hn : n ≤ 4096) :
    Calls Tryd.prog 29 #[.slice (some ⟨g, 0, none⟩) ps.length c] w fun e w' => ∃ p q, e = .returned (.tuple #[.pointer (some ⟨p, 0, none⟩), .int .i64 0]) ∧ w.heap.size ≤ p ∧ w.heap.size ≤ q ∧ St w' p q n (joinL false n (ps.map (·.2.2))) ∧ Nw w w' := by
  have K := Lib.hid (joined_or g c n ps w h h0 hl hn)
  obtain ⟨J, hJ⟩ : ∃ J, J = joinL false n (ps.map (·.2.2)) := ⟨_, rfl⟩
  rw [← hJ] at K ⊢
  clear hJ h
  go_enter Tryd.func29, Tryd.ntmps29
  go_wp2_with (go_at_call 51; refine K.out.mono ?_; rintro e w1 ⟨p, q, rfl, hp, hq, hS, hN⟩)
  go_returns
  exact ⟨p, q, rfl, hp, hq, hS, hN⟩
theorem sor_none (w : World) :
    Calls Tryd.prog 29 #[.slice none 0 0] w fun e w' => e = .returned (.tuple #[.pointer none, .int .i64 1]) ∧ Nw w w' := by
  go_enter Tryd.func29, Tryd.ntmps29
  go_wp2_with (go_at_call 51; refine (joined_none false _).mono ?_; rintro e w1 ⟨rfl, hN⟩)
  go_returns
  exact ⟨rfl, hN⟩
theorem sor_bad (g c p q n B : Nat) (X : Option Addr) (w : World) (h1 : w.cell? ⟨g, 0, none⟩ = some (.pointer (some ⟨p, 0, none⟩))) (h2 : w.cell? ⟨g, 1, none⟩ = some (.pointer X)) (hs : St w p q n B)
    (hX : X = none ∨ ∃ p2 q2 n2 B2, X = some ⟨p2, 0, none⟩ ∧ St w p2 q2 n2 B2 ∧ n2 ≠ n) :
    Calls Tryd.prog 29 #[.slice (some ⟨g, 0, none⟩) 2 c] w fun e w' => e = .returned (.tuple #[.pointer none, .int .i64 1]) ∧ Nw w w' := by
  have K := Lib.hid (joined_bad false g c p q n B X w h1 h2 hs hX)
  clear h1 h2 hs hX
  go_enter Tryd.func29, Tryd.ntmps29
  go_wp2_with (go_at_call 51; refine K.out.mono ?_; rintro e w1 ⟨rfl, hN⟩)
  go_returns
  exact ⟨rfl, hN⟩
set_option maxRecDepth 100000 in
set_option maxHeartbeats 2000000 in
theorem sand_calls (g c n : Nat) (ps : List (Nat × Nat × Nat)) (w : World) (h : PR w g n ps) (h0 : 0 < ps.length) (hl : ps.length ≤ 1000) (hn : n ≤ 4096) :
    Calls Tryd.prog 30 #[.slice (some ⟨g, 0, none⟩) ps.length c] w fun e w' => ∃ p q, e = .returned (.tuple #[.pointer (some ⟨p, 0, none⟩), .int .i64 0]) ∧ w.heap.size ≤ p ∧ w.heap.size ≤ q ∧ St w' p q n (joinL true n (ps.map (·.2.2))) ∧ Nw w w' := by
  have K := Lib.hid (joined_and g c n ps w h h0 hl hn)
  obtain ⟨J, hJ⟩ : ∃ J, J = joinL true n (ps.map (·.2.2)) := ⟨_, rfl⟩
  rw [← hJ] at K ⊢
  clear hJ h
  go_enter Tryd.func30, Tryd.ntmps30
  go_wp2_with (go_at_call 51; refine K.out.mono ?_; rintro e w1 ⟨p, q, rfl, hp, hq, hS, hN⟩)
  go_returns
  exact ⟨p, q, rfl, hp, hq, hS, hN⟩
theorem sand_none (w : World) :
    Calls Tryd.prog 30 #[.slice none 0 0] w fun e w' => e = .returned (.tuple #[.pointer none, .int .i64 1]) ∧ Nw w w' := by
  go_enter Tryd.func30, Tryd.ntmps30
  go_wp2_with (go_at_call 51; refine (joined_none true _).mono ?_; rintro e w1 ⟨rfl, hN⟩)
  go_returns
  exact ⟨rfl, hN⟩
theorem sand_bad (g c p q n B : Nat) (X : Option Addr) (w : World) (h1 : w.cell? ⟨g, 0, none⟩ = some (.pointer (some ⟨p, 0, none⟩))) (h2 : w.cell? ⟨g, 1, none⟩ = some (.pointer X)) (hs : St w p q n B)
    (hX : X = none ∨ ∃ p2 q2 n2 B2, X = some ⟨p2, 0, none⟩ ∧ St w p2 q2 n2 B2 ∧ n2 ≠ n) :
    Calls Tryd.prog 30 #[.slice (some ⟨g, 0, none⟩) 2 c] w fun e w' => e = .returned (.tuple #[.pointer none, .int .i64 1]) ∧ Nw w w' := by
  have K := Lib.hid (joined_bad true g c p q n B X w h1 h2 hs hX)
  clear h1 h2 hs hX
  go_enter Tryd.func30, Tryd.ntmps30
  go_wp2_with (go_at_call 51; refine K.out.mono ?_; rintro e w1 ⟨rfl, hN⟩)
  go_returns
  exact ⟨rfl, hN⟩

end Go.Proofs.YtacaeahijecfeaaDoor
