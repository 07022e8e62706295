/-
  slices.Clone at []uint64, walked; strip's Copy and Words.
-/
import Derived.Lib.SliceRun
import Derived.Test.YtiekoidlibhoeaaDoorStripOne
namespace Go.Proofs.YtiekoidlibhoeaaDoor
open Go.RowKit Go.Shelf Go.Proofs.YtiekoidlibhoeaaDoorW.PrintWords Go.Proofs.YtiekoidlibhoeaaDoorW.PrintMore
set_option linter.unusedVariables false
set_option linter.unusedSimpArgs false

set_option maxRecDepth 100000 in
set_option maxHeartbeats 2000000 in
theorem clone64_calls (ad : Addr) (c : Nat) (l : List Int) (w : World) (hc : ∀ j, j < l.length → w.cell? (ad.add j) = some (.int .u64 (l.getD j 0))) (hn : l.length ≤ 1000000) :
    Calls Tryd.prog 82 #[.slice (some ad) l.length c] w fun e w' => ∃ v', e = .returned v' ∧ w'.ownsRow w.heap.size 66 1 v' l.length (l.map (Value.int .u64)) ∧ v' ≠ .slice none 0 0 ∧ Below w.heap.size w w' := by
  obtain ⟨i0, hi, hz0, hz1, hz2⟩ := info_parts info_u64
  have q36 : ∀ (w : World) (a : Option Addr) (n c n' c' : Nat), (binOp .eql 67 (.slice a n c) (.slice none n' c')).run Tryd.prog w = .ok (.bool a.isNone) w := fun w a n c n' c' => Lib.run_eql_slice_nil w _ _ a n c n' c' Tryd.underlying67
  have A := Lib.hid hc
  clear hc
  go_enter Tryd.func82, Tryd.ntmps82
  go_wp2_with (at_builtin; refine wpList_append_own _ rfl _ _ 67 rfl w.heap.size 66 i0 (.int .u64 0) 1 8 Tryd.underlying67 hi hz0 hz1 hz2 rfl (by decide) _ _ _ rfl (World.ownsRow_made w #[] 0 (Nat.le_refl _) (Nat.zero_le _) rfl) ad l.length c (l.map (Value.int .u64)) rfl ?qc1 ?qc2 ?qc3 ?qc4 ?qc5 ?qc6 ?_)
  case qc1 => simp
  case qc2 =>
    intro j u hj
    have hjn : j < l.length := by
      have := (List.getElem?_eq_some_iff.1 hj).1
      simpa using this
    refine Lib.cell?_alloc_some _ ?_
    rw [A.out j hjn]
    rw [List.getElem?_map, List.getElem?_eq_getElem hjn] at hj
    rw [← hj, List.getD_eq_getElem?_getD, List.getElem?_eq_getElem hjn]; rfl
  case qc3 => intro u hu; obtain ⟨x, _, rfl⟩ := List.mem_map.1 hu; rfl
  case qc4 => unfold maxLen; omega
  case qc5 => omega
  case qc6 => simp
  intro v' w1 hown hgrow hnil
  have HN := Lib.hid hnil
  clear hnil
  go_wp2
  go_ret
  refine ⟨v', rfl, by simpa using hown, ?_, ?_⟩
  · intro h
    exact HN.out h
  · exact ((Below.refl _ w).alloc (Nat.le_refl _) _).grown hgrow (by simp) (by intro k hk; simp [Value.ownBlock] at hk; omega)

theorem St.clone {p q n B : Nat} {w : World} (h : St w p q n B) (c : Nat) :
    Calls Tryd.prog 82 #[.slice (some ⟨q, 0, none⟩) n c] w fun e w' => ∃ g c' cur, e = .returned (.slice (some ⟨g, 0, none⟩) n c') ∧ w.heap.size ≤ g ∧ w'.heap[g]? = some (.cells cur 66 (0, 0)) ∧ n ≤ cur.size ∧ cur.toList.take n = (wordsI n B).map (Value.int .u64) ∧ Nw w w' := by
  have hl := wordsI_len n B
  have := clone64_calls ⟨q, 0, none⟩ c (wordsI n B) w (fun j hj => ?_) (by have := h.le; omega)
  · rw [hl] at this
    refine this.mono ?_
    rintro e w' ⟨v', rfl, ho, hne, hb⟩
    obtain ⟨_, hrow⟩ := ho
    rcases hrow with ⟨rfl, h0⟩ | ⟨g, cap, cur, rfl, hg, hblk, h1, h2, h3, h4⟩
    · exact absurd rfl hne
    · exact ⟨g, cap, cur, rfl, hg, hblk, by omega, by simpa using h4, Fr.of_below hb⟩
  · obtain ⟨c2, _, h2, _⟩ := h.word (k := j) (by omega)
    rw [List.getD_eq_getElem?_getD, List.getElem?_eq_getElem hj, wordsI_get]
    rw [Addr.add_lit, Nat.zero_add]
    simpa using h2


set_option maxRecDepth 100000 in
set_option maxHeartbeats 1000000 in
theorem swords_calls (p q n B : Nat) (w : World) (h : St w p q n B) :
    Calls Tryd.prog 66 #[.pointer (some ⟨p, 0, none⟩)] w fun e w' => ∃ g c cur, e = .returned (.slice (some ⟨g, 0, none⟩) n c) ∧ w.heap.size ≤ g ∧ w'.heap[g]? = some (.cells cur 66 (0, 0)) ∧ n ≤ cur.size ∧ cur.toList.take n = (wordsI n B).map (Value.int .u64) ∧ Nw w w' := by
  obtain ⟨c, h4⟩ := h.head
  have hc := blk_cell h4 0
  have HC := Lib.hid (h.clone c)
  clear h4 h
  go_enter Tryd.func66, Tryd.ntmps66
  go_wp2_with (go_at_call 82; refine HC.out.mono ?_; rintro e w1 ⟨g, c', cur, rfl, hg, hblk, h1, h2, hn⟩)
  go_ret
  exact ⟨g, c', cur, rfl, hg, hblk, h1, h2, hn⟩
theorem swords_nil (w : World) :
    Calls Tryd.prog 66 #[.pointer none] w fun e w' => e = .returned (.slice none 0 0) ∧ w = w' := by
  go_enter Tryd.func66, Tryd.ntmps66
  go_wp2
  go_ret
  exact ⟨rfl, rfl⟩

end Go.Proofs.YtiekoidlibhoeaaDoor
