/-
  A slice of the bitmap's acts (four numbers each), as an argument: opened into a list.
-/
import Derived.Deep.Slices
import Derived.ChangeSlices
import Derived.SizedLaws
import Derived.Test.YtiekoidlibhoeaaDoorBmLay
namespace Go.Proofs.YtiekoidlibhoeaaDoor
open Go.ChangeShapes Go.WideShapes Go.RowKit
set_option linter.unusedVariables false
set_option linter.unusedSimpArgs false

set_option maxRecDepth 100000 in
theorem open_acts4 {H : Type} {enc : TypeId × Value → H} {W : World} {base : Nat} {spare : Nat → Bool} {held : Bool} {fuel : Nat} {cs : List Value} {x : DataW H × List MemPlace}
    (h : DataW.trod enc Tryd.prog W base spare held fuel 35 cs = some x) :
    (cs = [.slice none 0 0] ∧ x = (.nil, [])) ∨ ∃ (ad : Addr) (len cap : Nat) (l : List Act4) (ds es : List (DataW H)), cs = [.slice (some ad) len cap] ∧ l.length = len ∧ AC4 W (some ad) l ∧ x.1 = .slice ds es ∧ ds.length = len := by
  rcases Deep.open_slice Tryd.underlying35 h with h0 | ⟨ad, len, cap, m, n, D, Pl, hc, hb, hl, hm, hmm, hx, hall⟩
  · exact .inl h0
  right
  have hlm : len ≤ m := by rw [hmm]; split <;> omega
  have ce : Tryd.prog.cellsOf 64 = 4 := by kernel_rfl
  have c5 : Tryd.prog.cellsOf 5 = 1 := by kernel_rfl
  have c3 : Tryd.prog.cellsOf 40 = 1 := by kernel_rfl
  have each : ∀ i, i < len → ∃ q : Act4, W.cell? ((ad.add (i * 4)).add 0) = some (.int .u8 (q.1 : Nat)) ∧ W.cell? ((ad.add (i * 4)).add 1) = some (.int .u16 (q.2.1 : Nat)) ∧ W.cell? ((ad.add (i * 4)).add 2) = some (.int .u16 (q.2.2.1 : Nat)) ∧ W.cell? ((ad.add (i * 4)).add 3) = some (.int .u16 (q.2.2.2 : Nat)) ∧
      q.1 < 256 ∧ q.2.1 < 65536 ∧ q.2.2.1 < 65536 ∧ q.2.2.2 < 65536 := by
    intro i hi
    obtain ⟨cs', h1, h2⟩ := hall i (by omega)
    rw [ce] at h1
    obtain ⟨_, hlen, hcell⟩ := World.cells?_some h1
    obtain ⟨xs, k, hk, hxy, _, hxl, hf⟩ := DataW.trod_struct Tryd.underlying64 h2
    match xs, hxl, cs', hlen with
    | [y0, y1, y2, y3], _, [v0, v1, v2, v3], _ =>
      have g0 := hf 0 _ rfl
      have g1 := hf 1 _ rfl
      have g2 := hf 2 _ rfl
      have g3 := hf 3 _ rfl
      simp [c5, c3] at g0 g1 g2 g3
      obtain ⟨n0, e0, _, w0⟩ := DataW.trod_int Tryd.underlying5 g0
      obtain ⟨n1, e1, _, w1⟩ := DataW.trod_int Tryd.underlying40 g1
      obtain ⟨n2, e2, _, w2⟩ := DataW.trod_int Tryd.underlying40 g2
      obtain ⟨n3, e3, _, w3⟩ := DataW.trod_int Tryd.underlying40 g3
      simp only [List.cons.injEq, and_true] at e0 e1 e2 e3
      have hw := u8_bd w0
      have hw1 := u16_bd w1
      have hw2 := u16_bd w2
      have hw3 := u16_bd w3
      have a0 := hcell 0 (by omega)
      have a1 := hcell 1 (by omega)
      have a2 := hcell 2 (by omega)
      have a3 := hcell 3 (by omega)
      simp at a0 a1 a2 a3
      have cast : ∀ n : Int, 0 ≤ n → ((n.toNat : Nat) : Int) = n := fun n h => by omega
      refine ⟨(n0.toNat, n1.toNat, n2.toNat, n3.toNat), ?_, ?_, ?_, ?_, ?_, ?_, ?_, ?_⟩
      · rw [a0, e0, cast n0 hw.1]
      · rw [a1, e1, cast n1 hw1.1]
      · rw [a2, e2, cast n2 hw2.1]
      · rw [a3, e3, cast n3 hw3.1]
      · show n0.toNat < 256
        omega
      · show n1.toNat < 65536
        omega
      · show n2.toNat < 65536
        omega
      · show n3.toNat < 65536
        omega
  obtain ⟨q, hq⟩ := Deep.choose_lt each
  refine ⟨ad, len, cap, (List.range len).map q, _, _, hc, by simp, ?_, by rw [hx], by simp⟩
  intro k hk
  have hk2 : k < len := by simpa using hk
  obtain ⟨b0, b1, b2, b3, b4⟩ := hq k hk2
  obtain ⟨g, o, sp⟩ := ad
  have hsp : sp = none := by
    have := World.cell?_spot (hq 0 (by omega)).1
    simpa [Addr.add] using this
  subst hsp
  rw [Addr.add_lit, Addr.add_lit] at b0 b1 b2 b3
  rw [Nat.add_zero] at b0
  refine ⟨g, o, rfl, ?_, ?_, ?_, ?_, ?_⟩ <;> simp only [List.getElem_map, List.getElem_range]
  · exact b0
  · exact b1
  · exact b2
  · exact b3
  · exact b4

/-- The same of an argument: and it is no longer than its weight allows. -/
theorem acts4_arg {H : Type} {enc : TypeId × Value → H} {W : World} {base : Nat} {spare : Nat → Bool} {held : Bool} {a : Option Addr} {len cap : Nat} {d : DataW H} {ps : List MemPlace} {ts : List TypeId} {ds : List (DataW H)} {j : Nat}
    (hsz : (DataW.weightsEach Tryd.prog ts ds).all (· ≤ reachBytes) = true) (ht : ts[j]? = some 35) (hd : ds[j]? = some d)
    (h : DataW.Trod enc Tryd.prog W base spare held 35 (.slice a len cap) d ps) : ∃ l : List Act4, l.length = len ∧ AC4 W a l ∧ len ≤ 140737488351232 := by
  obtain ⟨fuel, hf⟩ := h
  rcases open_acts4 hf with ⟨hcs, _⟩ | ⟨ad, len', cap', l, es, fs, hcs, hl, hA, hx, hes⟩
  · simp [Value.cells] at hcs
    obtain ⟨rfl, rfl, rfl⟩ := hcs
    exact ⟨[], rfl, fun k hk => absurd hk (Nat.not_lt_zero _), Nat.zero_le _⟩
  · simp [Value.cells] at hcs
    obtain ⟨rfl, rfl, rfl⟩ := hcs
    have hx : d = .slice es fs := hx
    subst hx
    refine ⟨l, hl, hA, ?_⟩
    have z := sized_slice hsz ht hd Tryd.underlying35
    have hb : 1 ≤ Tryd.prog.bytesOf 64 := by
      have : Tryd.prog.bytesOf 64 = 8 := by kernel_rfl
      omega
    have h1 : len ≤ (es.length + fs.length) * Tryd.prog.bytesOf 64 := Nat.le_trans (by omega) (Nat.le_mul_of_pos_right _ hb)
    exact Nat.le_trans (Nat.le_trans h1 z) (by decide)

end Go.Proofs.YtiekoidlibhoeaaDoor
