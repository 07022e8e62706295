/-
  Merged by merge.py: TrPath TrHas TrSmall TrMake.
-/
import Derived.Deep.RegionHeld3
import Derived.Test.YtnhdcefoigmjpaaDoorTrC
/-
  The contracts of a trie's path, and of Has.
-/

namespace Go.Proofs.YtnhdcefoigmjpaaDoor
open Go.RowKit Go.Proofs.YtnhdcefoigmjpaaDoorW.PrintWords Go.Proofs.YtnhdcefoigmjpaaDoorW.PrintMore
attribute [local go_sem] max2_int min2_int max_two min_two
set_option linter.unusedVariables false
set_option linter.unusedSimpArgs false

/-- So many beginnings of k there are. -/
def Dep (l : List Nat) (k d : Nat) : Prop := d ≤ 11 ∧ ∀ i, i < 11 → ((∃ x, x ∈ l ∧ pre i x = pre i k) ↔ i < d)
def way (ad : Ad) (k d : Nat) : List Int := (List.range d).map fun i => ((ad i (pre i k) : Nat) : Int)
theorem way_len (ad : Ad) (k d : Nat) : (way ad k d).length = d := by simp [way]
theorem way_succ (ad : Ad) (k d : Nat) : way ad k (d + 1) = way ad k d ++ [((ad d (pre d k) : Nat) : Int)] := by simp [way, List.range_succ]
theorem way_get (ad : Ad) (k d i : Nat) (hi : i < d) : (way ad k d)[i]? = some ((ad i (pre i k) : Nat) : Int) := by simp [way, hi]
theorem way_nodes {W : World} {t m p lim root : Nat} {l : List Nat} {ad : Ad} {rows : List (Option Nd)} {free : List Nat} {cv fv : Value} (h : TI W t m p l lim ad rows free cv fv root) {k d : Nat} (hd : Dep l k d) :
    ∃ X : Nat → Nd, ∀ i, i < d → rows[ad i (pre i k)]? = some (some (X i)) := by
  have key : ∀ i, ∃ x, i < d → rows[ad i (pre i k)]? = some (some x) := by
    intro i
    by_cases hi : i < d
    · have h11 := hd.1
      obtain ⟨z, hz, e⟩ := (hd.2 i (by omega)).2 hi
      obtain ⟨x, h1, _⟩ := h.at (i := i) (by omega) hz
      rw [e] at h1
      exact ⟨x, fun _ => h1⟩
    · exact ⟨Nd.zero, fun h => absurd h hi⟩
  exact ⟨fun i => (key i).choose, fun i hi => (key i).choose_spec hi⟩
theorem way_ok {W : World} {t m p lim root : Nat} {l : List Nat} {ad : Ad} {rows : List (Option Nd)} {free : List Nat} {cv fv : Value} (h : TI W t m p l lim ad rows free cv fv root) {k d : Nat} (hd : Dep l k d) {i : Nat} {x : Nd} (hi : i < d) (hx : rows[ad i (pre i k)]? = some (some x)) : NdOk W fv ad l i (pre i k) x := by
  have h11 := hd.1
  obtain ⟨z, hz, e⟩ := (hd.2 i (by omega)).2 hi
  obtain ⟨y, h1, h2⟩ := h.at (i := i) (by omega) hz
  rw [e] at h1 h2
  rw [hx] at h1
  simp only [Option.some.injEq] at h1
  subst h1; exact h2

theorem R_base {k : IntKind} {e : Nat} {W : World} {v : Value} {xs : List Int} {B : Nat} (h : Kd.R (Kd.int k) e W 0 (fun _ => True) v xs) (hB : ∀ q, v.ownBlock = some q → B ≤ q) : Kd.R (Kd.int k) e W B (fun _ => True) v xs := by
  refine Kd.R_of_own ?_ (fun _ _ => trivial)
  obtain ⟨h1, h2⟩ := Kd.own_of_R h
  refine ⟨h1, ?_⟩
  rcases h2 with h2 | ⟨g, cap, cur, rfl, _, hg, rest⟩
  · exact .inl h2
  · exact .inr ⟨g, cap, cur, rfl, hB g rfl, hg, rest⟩
theorem way_round {w wr wc w2 : World} {m g g1 cp cp1 b0 j k : Nat} {ad : Ad} {x : Nd} {tk : Int} {a0 a1 a2 a3 a4 : Value} (hwg : w.heap.size ≤ g) (hb0 : w.heap.size < b0) (HFj : Fr (One m) w wr) (HF1 : Fr (One m) wr wc) (HM1 : MT wc m tk)
    (HO : Kd.R (Kd.int .i64) 3 wc 0 (fun _ => True) (.slice (some ⟨g, 0, none⟩) (j + 1) cp) (way ad k (j + 1))) (HB02 : w2.heap[b0]? = some (.cells #[a0, a1, a2, a3, a4] 73 (0, 0)))
    (HG3 : Fr (fun k => (some g : Option Nat) = some k) wc w2) (hat : (Value.slice (some ⟨g1, 0, none⟩) (j + 1 + 1) cp1).ownBlock = (Value.slice (some ⟨g, 0, none⟩) (j + 1) cp).ownBlock ∨ ∃ b, (Value.slice (some ⟨g1, 0, none⟩) (j + 1 + 1) cp1).ownBlock = some b ∧ wc.drew.heap.size ≤ b)
    (hR2 : w2.ownsRow 0 3 1 (.slice (some ⟨g1, 0, none⟩) (j + 1 + 1) cp1) (j + 1 + 1) (encs (Value.int .i64) (way ad k (j + 1)) ++ [.int .i64 (ad (j + 1) (pre (j + 1) k) : Nat)])) :
    w.heap.size ≤ g1 ∧ Kd.R (Kd.int .i64) 3 (((((w2.setCell ⟨b0, 0, none⟩ (.int .u64 x.b)).setCell ⟨b0, 1, none⟩ (.slice x.ka x.kn x.kc)).setCell ⟨b0, 2, none⟩ (.int .i64 x.n)).setCell ⟨b0, 3, none⟩ (.int .u64 x.lo)).setCell ⟨b0, 4, none⟩ (.int .u64 x.hi)) 0 (fun _ => True) (.slice (some ⟨g1, 0, none⟩) (j + 1 + 1) cp1) (way ad k (j + 1 + 1)) ∧ (((((w2.setCell ⟨b0, 0, none⟩ (.int .u64 x.b)).setCell ⟨b0, 1, none⟩ (.slice x.ka x.kn x.kc)).setCell ⟨b0, 2, none⟩ (.int .i64 x.n)).setCell ⟨b0, 3, none⟩ (.int .u64 x.lo)).setCell ⟨b0, 4, none⟩ (.int .u64 x.hi)).heap[b0]? = some (.cells #[.int .u64 x.b, .slice x.ka x.kn x.kc, .int .i64 x.n, .int .u64 x.lo, .int .u64 x.hi] 73) ∧ MT (((((w2.setCell ⟨b0, 0, none⟩ (.int .u64 x.b)).setCell ⟨b0, 1, none⟩ (.slice x.ka x.kn x.kc)).setCell ⟨b0, 2, none⟩ (.int .i64 x.n)).setCell ⟨b0, 3, none⟩ (.int .u64 x.lo)).setCell ⟨b0, 4, none⟩ (.int .u64 x.hi)) m tk ∧ Fr (One m) w (((((w2.setCell ⟨b0, 0, none⟩ (.int .u64 x.b)).setCell ⟨b0, 1, none⟩ (.slice x.ka x.kn x.kc)).setCell ⟨b0, 2, none⟩ (.int .i64 x.n)).setCell ⟨b0, 3, none⟩ (.int .u64 x.lo)).setCell ⟨b0, 4, none⟩ (.int .u64 x.hi)) := by
  obtain ⟨_, hgc⟩ := own_blk (Kd.own_of_R HO) g rfl
  obtain ⟨_, hg1⟩ := own_blk hR2 g1 rfl
  obtain ⟨r, c, p, q, hmb⟩ := HM1
  have hm2 : MT w2 m tk := ⟨r, c, p, q, HG3.blk hmb (fun e => by cases e; exact typ_ne hgc hmb (by decide) rfl)⟩
  have hbm : m ≠ b0 := by obtain ⟨_, _, _, _, hx⟩ := hm2; exact typ_ne hx HB02 (by decide)
  refine ⟨?_, R_fr (Kd.R_of_own ?_ (fun _ _ => trivial)) (fr_put5 w2 b0 x) (fun q hq => ?_), blk_put5 HB02 x, hm2.fr (fr_put5 w2 b0 x) hbm, ((HFj.trans HF1).trans_of HG3 (fun i hi e => by cases e; omega)).trans_new (fr_put5 w2 b0 x) (by omega)⟩
  · rcases hat with e | ⟨b, e, hb⟩
    · simp only [Value.ownBlock, Option.some.injEq] at e; omega
    · simp only [Value.ownBlock, Option.some.injEq] at e
      have h1 := HFj.size; have h2 := HF1.size
      have h3 : wc.heap.size ≤ b := hb
      omega
  · rw [way_len, way_succ ad k (j + 1)]
    simpa [encs] using hR2
  · simp only [Value.ownBlock, Option.some.injEq] at hq
    subst hq
    exact typ_ne hg1 HB02 (by decide)

theorem blk_new2d (W : World) (o o2 : Obj) : ((W.alloc o).drew.alloc o2).heap[W.heap.size + 1]? = some o2 := blk_new2 W o o2
set_option maxRecDepth 100000 in
set_option maxHeartbeats 2000000 in
theorem tpath_some (t m p lim root : Nat) (l : List Nat) (ad : Ad) (rows : List (Option Nd)) (free : List Nat) (cv fv : Value) (tk : Int) (w : World) (h : TI w t m p l lim ad rows free cv fv root) (hm : MT w m tk) (h1 : 0 ≤ tk) (h2 : tk ≤ 100000) (k d : Nat) (hk : k < 18446744073709551616) (hd : Dep l k d) (hne : l ≠ []) :
    Calls Tryd.prog 52 #[.pointer (some ⟨t, 0, none⟩), .int .u64 k] w fun e w' => ∃ v', e = .returned v' ∧ Kd.R (Kd.int .i64) 3 w' w.heap.size (fun _ => True) v' (way ad k d) ∧ MT w' m (tk + d) ∧ Fr (One m) w w' := by
  obtain ⟨X, hX⟩ := way_nodes h hd
  have h0 : 0 < d := by
    obtain ⟨z, hz⟩ := List.exists_mem_of_ne_nil _ hne
    exact (hd.2 0 (by omega)).1 ⟨z, hz, by rw [pre_zero hk, pre_zero (h.bd z hz)]⟩
  have hroot : root = ad 0 (pre 0 k) := by rw [pre_zero hk]; exact h.root hne
  have H := Lib.hid h
  have HM := Lib.hid hm
  have HX := Lib.hid hX
  have HD := Lib.hid hd
  have HR := Lib.hid hroot
  have ht := h.lt
  have hml := hm.mlt
  have hln : ((l.length : Int) == 0) = false := by cases l <;> simp at hne ⊢; omega
  have c1 : w.cell? ⟨t, 1, none⟩ = some (.pointer (some ⟨p, 0, none⟩)) := blk_cell h.blk 1
  have c2 : w.cell? ⟨t, 2, none⟩ = some (.int .i64 root) := blk_cell h.blk 2
  have c3 : w.cell? ⟨t, 3, none⟩ = some (.int .i64 l.length) := blk_cell h.blk 3
  clear h hm hX hd hroot
  go_enter Tryd.func52, Tryd.ntmps52
  go_wp2
  go_cut [6, 7] from 22 to 33 (fun s6 s7 wx => ∃ b0 : Nat, s6 = .pointer (some ⟨b0, 0, none⟩) ∧ s7 = .bool true ∧ w.heap.size < b0 ∧ Hid (wx.heap[b0]? = some (.cells #[.int .u64 (X 0).b, .slice (X 0).ka (X 0).kn (X 0).kc, .int .i64 (X 0).n, .int .u64 (X 0).lo, .int .u64 (X 0).hi] 73)) ∧ Hid (MT wx m (tk + 1)) ∧ Hid (Fr (One m) w wx) ∧ Hid (wx.heap[w.heap.size]? = some (.cells #[.int .i64 root] 3)))
  case first =>
    go_region_law ((go_simp; go_at_call 41; refine (pl_at p m rows free lim cv fv tk _ (H.out.pl.nw (by first | exact ((Fr.refl _ _).alloc _).drew | exact ((((Fr.refl _ _).alloc _).drew).alloc _))) (HM.out.fr (S := fun _ => False) (by first | exact ((Fr.refl _ _).alloc _).drew | exact ((((Fr.refl _ _).alloc _).drew).alloc _)) (fun h => h)) h1 (by omega) root (X 0) (by rw [HR.out]; exact HX.out 0 h0)).mono ?_; rintro e w3 ⟨rfl, hm3, hf3⟩; have hs3 : w.heap.size < w3.heap.size := Nat.lt_of_lt_of_le (by simp <;> omega) hf3.size; have hq3 : w3.heap[w.heap.size]? = some (.cells #[.int .i64 root] 3) := hf3.blk (by first | exact blk_drew (blk_new _ _) | exact blk_alloc (blk_drew (blk_new _ _)) _) (by simp only [One]; omega); have HQ3 := Lib.hid hq3; have HM3 := Lib.hid hm3; have HF3 := Lib.hid hf3; (try (have hb4 : w3.heap[w.heap.size + 1]? = some (.cells #[.int .u64 0, .slice none 0 0, .int .i64 0, .int .u64 0, .int .u64 0] 73) := hf3.blk (blk_new2d _ _ _) (by simp only [One]; omega); obtain ⟨r0, r1, r2, r3, r4⟩ := nd_cells hb4; have g0 := blk_frozen hb4 0; have g1 := blk_frozen hb4 1; have g2 := blk_frozen hb4 2; have g3 := blk_frozen hb4 3; have g4 := blk_frozen hb4 4; have HB4 := Lib.hid hb4; clear hb4)); clear hq3 hm3 hf3))
    all_goals go_simp
    all_goals go_wp2_with fail
    all_goals go_meet
    all_goals first
      | exact ⟨w.heap.size + 1, rfl, rfl, by omega, Lib.hid (blk_put5 HB4.out (X 0)), Lib.hid (HM3.out.fr (fr_put5 w3 _ (X 0)) (by simp only [One]; omega)), Lib.hid (((((Fr.refl _ w).alloc _).drew.alloc _).trans HF3.out).trans_new (fr_put5 w3 _ (X 0)) (Nat.le_succ _)), Lib.hid ((fr_put5 w3 _ (X 0)).blk HQ3.out (by simp only [One]; omega))⟩
      | exact ⟨w3.heap.size, rfl, rfl, hs3, Lib.hid (blk_new w3 _), Lib.hid (HM3.out.fr (S := fun _ => False) ((Fr.refl _ w3).alloc _) (fun h => h)), Lib.hid ((((Fr.refl _ w).alloc _).drew.trans HF3.out).alloc _), Lib.hid (blk_alloc HQ3.out _)⟩
  case rest =>
    obtain ⟨b0, rfl, rfl, hb0, HB, HMx, HFx, HQ⟩ := hcut
    clear c1 c2 c3
    have HTX := Lib.hid (H.out.meter HM.out HFx.out)
    have HRx : Hid (Kd.R (Kd.int .i64) 3 wc 0 (fun _ => True) (.slice (some ⟨w.heap.size, 0, none⟩) 1 1) (way ad k 1)) := Lib.hid (Kd.R_of_own ⟨by simp [way, encs], .inr ⟨w.heap.size, 1, #[.int .i64 root], by rw [way_len], Nat.zero_le _, HQ.out, by rw [way_len]; exact Nat.le_refl _, by unfold maxLen; omega, rfl, by rw [HR.out]; rfl⟩⟩ (fun _ _ => trivial))
    have hd11 := HD.out.1
    go_wp2
    go_loopw [5, 8, 9, 10, 11, 34] (fun out _ _ _ _ lv wr => ∃ (j g cp : Nat), j + 1 ≤ d ∧ j ≤ 10 ∧ lv = .int .i64 j ∧ out = .slice (some ⟨g, 0, none⟩) (j + 1) cp ∧ w.heap.size ≤ g ∧ Hid (Kd.R (Kd.int .i64) 3 wr 0 (fun _ => True) (.slice (some ⟨g, 0, none⟩) (j + 1) cp) (way ad k (j + 1))) ∧ Hid (wr.heap[b0]? = some (.cells #[.int .u64 (X j).b, .slice (X j).ka (X j).kn (X j).kc, .int .i64 (X j).n, .int .u64 (X j).lo, .int .u64 (X j).hi] 73)) ∧ Hid (MT wr m (tk + (j + 1 : Nat))) ∧ Hid (Fr (One m) w wr)) (fun _ _ _ _ _ lv _ => 10 - (intOf lv).toNat)
    case atStart => exact ⟨0, w.heap.size, 1, by omega, by omega, rfl, rfl, Nat.le_refl _, HRx, HB, HMx, HFx⟩
    case round =>
      obtain ⟨j, g, cp, hjd, hj10, rfl, rfl, hwg, HRo, HBj, HMj, HFj⟩ := hrel
      have HTK : Hid (tk + (j + 1 : Nat) + 1 = tk + (j + 2 : Nat)) := Lib.hid (by omega)
      have HNM : Hid (∀ b cs, wr.heap[b]? = some (.cells cs 73 (0, 0)) → b ≠ m) := Lib.hid (fun b cs hb => by obtain ⟨_, _, _, _, hc⟩ := HMj.out; exact typ_ne hb hc (by decide))
      have HNM2 : Hid (∀ b cs, wr.heap[b]? = some (.cells cs 3 (0, 0)) → b ≠ m) := Lib.hid (fun b cs hb => by obtain ⟨_, _, _, _, hc⟩ := HMj.out; exact typ_ne hb hc (by decide))
      have HTj := Lib.hid (H.out.meter HM.out HFj.out)
      obtain ⟨r0, r1, r2, r3, r4⟩ := nd_cells HBj.out
      by_cases hlt : j < 10
      · have HAt := Lib.hid (fun w' => tat_calls k j w' hk (by omega))
        have HOK := Lib.hid (way_ok HTj.out HD.out hjd (HX.out j hjd))
        have hlt' : (j : Int) < 10 := by omega
        by_cases hnx : j + 1 < d
        · have HK := Lib.hid (fun w' (h' : TI w' t m p l lim ad rows free cv fv root) (hm' : MT w' m (tk + (j + 1 : Nat))) (ho : NdOk w' fv ad l j (pre j k) (X j)) => tkid_yes t m p lim root l ad rows free cv fv (tk + (j + 1 : Nat)) w' h' hm' (by omega) (by omega) j k hlt (X j) (X (j + 1)) ho ((HD.out.2 (j + 1) (by omega)).2 hnx) (HX.out (j + 1) hnx))
          go_wp2
          go_cut [9, 10, 11] from 37 to 46 (fun s9 s10 s11 wx => ∃ b1 : Nat, s9 = .int .i64 (ad (j + 1) (pre (j + 1) k) : Nat) ∧ s10 = .pointer (some ⟨b1, 0, none⟩) ∧ s11 = .bool true ∧ b0 < b1 ∧ Hid (wx.heap[b1]? = some (.cells #[.int .u64 (X (j + 1)).b, .slice (X (j + 1)).ka (X (j + 1)).kn (X (j + 1)).kc, .int .i64 (X (j + 1)).n, .int .u64 (X (j + 1)).lo, .int .u64 (X (j + 1)).hi] 73)) ∧ Hid (MT wx m (tk + (j + 2 : Nat))) ∧ Hid (Fr (One m) wr wx))
          case first =>
            have hbb := blk_lt HBj.out
            go_region_law (first | (go_simp; go_at_call 42; refine (HAt.out _).mono ?_; rintro e w1 ⟨rfl, rfl⟩) | (go_simp; go_at_call 44; refine (HK.out _ (HTj.out.nw (by first | exact (Fr.refl _ _).drew | exact ((Fr.refl _ _).drew).alloc _)) (HMj.out.fr (S := fun _ => False) (by first | exact (Fr.refl _ _).drew | exact ((Fr.refl _ _).drew).alloc _) (fun h => h)) (HOK.out.kept (S := fun _ => False) (by first | exact (Fr.refl _ _).drew | exact ((Fr.refl _ _).drew).alloc _) (fun _ _ h => h) (Ext.refl _ _))).mono ?_; rintro e w3 ⟨rfl, hm3, hf3⟩; have hs3 : b0 < w3.heap.size := Nat.lt_of_lt_of_le (by simp <;> omega) hf3.size; have HM3 := Lib.hid hm3; have HF3 := Lib.hid hf3; (try (have hb4 : w3.heap[wr.heap.size]? = some (.cells #[.int .u64 0, .slice none 0 0, .int .i64 0, .int .u64 0, .int .u64 0] 73) := hf3.blk (blk_new wr.drew _) (by have := HMj.out.mlt; simp only [One]; omega); obtain ⟨r0, r1, r2, r3, r4⟩ := nd_cells hb4; have g0 := blk_frozen hb4 0; have g1 := blk_frozen hb4 1; have g2 := blk_frozen hb4 2; have g3 := blk_frozen hb4 3; have g4 := blk_frozen hb4 4; have HB4 := Lib.hid hb4; clear hb4)); clear hm3 hf3))
            all_goals go_simp
            all_goals go_wp2_with fail
            all_goals go_meet
            all_goals first
              | exact ⟨wr.heap.size, rfl, rfl, rfl, hbb, Lib.hid (blk_put5 HB4.out (X (j + 1))), Lib.hid (by rw [← HTK.out]; exact HM3.out.fr (fr_put5 w3 _ (X (j + 1))) (by have := HMj.out.mlt; simp only [One]; omega)), Lib.hid ((((Fr.refl _ wr).drew.alloc _).trans HF3.out).trans_new (fr_put5 w3 _ (X (j + 1))) (Nat.le_refl _))⟩
              | exact ⟨w3.heap.size, rfl, rfl, rfl, hs3, Lib.hid (blk_new w3 _), Lib.hid (by rw [← HTK.out]; exact HM3.out.fr (S := fun _ => False) ((Fr.refl _ w3).alloc _) (fun h => h)), Lib.hid (((Fr.refl _ wr).drew.trans HF3.out).alloc _)⟩
          case rest =>
            obtain ⟨b1, rfl, rfl, rfl, hb1, HB1, HM1, HF1⟩ := hcut
            obtain ⟨s0, s1, s2, s3, s4⟩ := nd_cells HB1.out
            have HB0 := Lib.hid (HF1.out.blk HBj.out (fun e => HNM.out b0 _ HBj.out e))
            have hbl := blk_lt HB1.out
            have g0 := blk_frozen HB0.out 0; have g1 := blk_frozen HB0.out 1; have g2 := blk_frozen HB0.out 2; have g3 := blk_frozen HB0.out 3; have g4 := blk_frozen HB0.out 4
            have HO1 := Lib.hid (R_fr HRo.out HF1.out (fun q hq => fun e => by obtain ⟨_, hc⟩ := own_blk (Kd.own_of_R HRo.out) q hq; exact HNM2.out q _ hc e))
            have HGB : Hid (g ≠ b0 ∧ g ≠ b1) := Lib.hid (by obtain ⟨_, hc⟩ := own_blk (Kd.own_of_R HO1.out) g rfl; exact ⟨typ_ne hc HB0.out (by decide), typ_ne hc HB1.out (by decide)⟩)
            clear r0 r1 r2 r3 r4
            go_wp2
            go_region_law ((refine push_step (W := wc.drew) wc.heap.size rfl (by rfl) (.tmp 49) (.tmp 51) 71 3 (.int .i64 0) 1 8 (by rfl) Tryd.underlying71 info_i64 rfl (by decide) (by decide) (.slice (some ⟨g, 0, none⟩) (j + 1) cp) (j + 1) (encs (Value.int .i64) (way ad k (j + 1))) [.int .i64 (ad (j + 1) (pre (j + 1) k) : Nat)] (by rfl) (by rfl) rfl (fun u hu => by rw [List.mem_singleton.1 hu]; rfl) (by have e := Kd.own_of_R HO1.out; rw [way_len] at e; exact e) (by omega) ?_; intro v1 w2 hR2 hg2 hat2; obtain ⟨g1, cp1, rfl, _, _⟩ := World.ownsRow.form hR2 (Nat.succ_pos _); have hg3 := (Fr.refl (fun k => (some g : Option Nat) = some k) wc).drew.trans (fr_grown hg2); have hb12 := hg3.blk HB1.out (fun e => HGB.out.2 (Option.some.inj e)); have hb02 := hg3.blk HB0.out (fun e => HGB.out.1 (Option.some.inj e)); obtain ⟨q0, q1, q2, q3, q4⟩ := nd_cells hb12; obtain ⟨o0, o1, o2, o3, o4⟩ := nd_cells hb02; have f0 := blk_frozen hb02 0; have f1 := blk_frozen hb02 1; have f2 := blk_frozen hb02 2; have f3 := blk_frozen hb02 3; have f4 := blk_frozen hb02 4; have HB02 := Lib.hid hb02; have HG3 := Lib.hid hg3; have HA2 := Lib.hid hat2; have HR2 := Lib.hid hR2; clear hb12 hb02 hg3 hg2 hat2 hR2))
            all_goals (go_wp2; go_roundw)
            all_goals first
              | (have hz := way_round (x := X (j + 1)) hwg hb0 HFj.out HF1.out HM1.out HO1.out HB02.out HG3.out HA2.out HR2.out
                 exact ⟨j + 1, g1, cp1, hnx, by omega, by go_num, rfl, hz.1, Lib.hid hz.2.1, Lib.hid hz.2.2.1, Lib.hid hz.2.2.2.1, Lib.hid hz.2.2.2.2⟩)
              | (simp [intOf]; omega)
        · have HK := Lib.hid (fun w' (ho : NdOk w' fv ad l j (pre j k) (X j)) => tkid_no t m p lim root l ad fv w' j k (by omega) (X j) ho (fun e => hnx ((HD.out.2 (j + 1) (by omega)).1 e)))
          obtain rfl : d = j + 1 := by omega
          go_wp2
          go_cut [9, 10, 11] from 37 to 46 (fun s9 s10 s11 wx => s11 = .bool false ∧ Hid (Fr (fun _ => False) wr wx))
          case first =>
            have hbb := blk_lt HBj.out
            go_region_law (first | (go_simp; go_at_call 42; refine (HAt.out _).mono ?_; rintro e w1 ⟨rfl, rfl⟩) | (go_simp; go_at_call 44; refine (HK.out _ (HOK.out.kept (S := fun _ => False) (by first | exact (Fr.refl _ _).drew | exact ((Fr.refl _ _).drew).alloc _) (fun _ _ h => h) (Ext.refl _ _))).mono ?_; rintro e w3 ⟨rfl, hf3⟩; have hs3 : b0 < w3.heap.size := Nat.lt_of_lt_of_le (by simp <;> omega) hf3.size; have HF3 := Lib.hid hf3; (try (have hb4 : w3.heap[wr.heap.size]? = some (.cells #[.int .u64 0, .slice none 0 0, .int .i64 0, .int .u64 0, .int .u64 0] 73) := hf3.blk (blk_new wr.drew _) (fun h => h); obtain ⟨r0, r1, r2, r3, r4⟩ := nd_cells hb4; have g0 := blk_frozen hb4 0; have g1 := blk_frozen hb4 1; have g2 := blk_frozen hb4 2; have g3 := blk_frozen hb4 3; have g4 := blk_frozen hb4 4; have HB4 := Lib.hid hb4; clear hb4)); clear hf3))
            all_goals go_simp
            all_goals go_wp2_with fail
            all_goals go_meet
            all_goals first
              | exact ⟨rfl, Lib.hid ((((Fr.refl _ wr).drew.alloc _).trans HF3.out).trans_new (fr_put5 w3 _ Nd.zero) (Nat.le_refl _))⟩
              | exact ⟨rfl, Lib.hid (((Fr.refl _ wr).drew.trans HF3.out).alloc _)⟩
              | trace_state
          case rest =>
            obtain ⟨rfl, HF1⟩ := hcut
            go_wp2
            go_ret
            refine ⟨_, rfl, R_base (R_fr HRo.out HF1.out (fun _ _ h => h)) (fun q hq => ?_), HMj.out.fr HF1.out (fun h => h), HFj.out.trans (HF1.out.mono (fun _ _ h => h.elim))⟩
            have hq2 : (some g : Option Nat) = some q := hq
            cases hq2; omega
      · have hlt' : ¬ (j : Int) < 10 := by omega
        have hd11 := HD.out.1
        obtain rfl : j = 10 := by omega
        obtain rfl : d = 11 := by omega
        go_wp2
        go_ret
        refine ⟨_, rfl, R_base HRo.out (fun q hq => ?_), HMj.out, HFj.out⟩
        have hq2 : (some g : Option Nat) = some q := hq
        cases hq2; omega
set_option maxHeartbeats 1000000 in
theorem tpath_none (t : Nat) (k : Nat) (w : World) (c3 : w.cell? ⟨t, 3, none⟩ = some (.int .i64 0)) :
    Calls Tryd.prog 52 #[.pointer (some ⟨t, 0, none⟩), .int .u64 k] w fun e w' => e = .returned (.slice none 0 0) ∧ w = w' := by
  go_enter Tryd.func52, Tryd.ntmps52
  go_wp2
  go_ret
  exact ⟨rfl, rfl⟩
theorem tpath_calls (t m p lim root : Nat) (l : List Nat) (ad : Ad) (rows : List (Option Nd)) (free : List Nat) (cv fv : Value) (tk : Int) (w : World) (h : TI w t m p l lim ad rows free cv fv root) (hm : MT w m tk) (h1 : 0 ≤ tk) (h2 : tk ≤ 100000) (k d : Nat) (hk : k < 18446744073709551616) (hd : Dep l k d) :
    Calls Tryd.prog 52 #[.pointer (some ⟨t, 0, none⟩), .int .u64 k] w fun e w' => ∃ v', e = .returned v' ∧ Kd.R (Kd.int .i64) 3 w' w.heap.size (fun _ => True) v' (way ad k d) ∧ MT w' m (tk + d) ∧ Fr (One m) w w' := by
  by_cases hne : l = []
  · subst hne
    have h0 : d = 0 := by
      have h11 := hd.1
      rcases Nat.eq_zero_or_pos d with h | h
      · exact h
      · obtain ⟨_, hx, _⟩ := (hd.2 0 (by omega)).2 h
        cases hx
    subst h0
    refine (tpath_none t k w (blk_cell h.blk 3)).mono ?_
    rintro e w' ⟨rfl, rfl⟩
    exact ⟨_, rfl, Kd.R_nil _ _ _ _ _, by simpa using hm, Fr.refl _ _⟩
  · exact tpath_some t m p lim root l ad rows free cv fv tk w h hm h1 h2 k d hk hd hne
end Go.Proofs.YtnhdcefoigmjpaaDoor

/-
  The contracts of a trie's Has, of the last node's bit, and of a node grown by a key.
-/

namespace Go.Proofs.YtnhdcefoigmjpaaDoor
open Go.RowKit Go.Proofs.YtnhdcefoigmjpaaDoorW.PrintWords Go.Proofs.YtnhdcefoigmjpaaDoorW.PrintMore
attribute [local go_sem] max2_int min2_int max_two min_two
set_option linter.unusedVariables false
set_option linter.unusedSimpArgs false

set_option maxRecDepth 100000 in
set_option maxHeartbeats 1000000 in
theorem tlast_calls (t m p lim root : Nat) (l : List Nat) (ad : Ad) (rows : List (Option Nd)) (free : List Nat) (cv fv : Value) (w : World) (h : TI w t m p l lim ad rows free cv fv root) (k : Nat) (hk : k < 18446744073709551616) (hz : ∃ z, z ∈ l ∧ pre 10 z = pre 10 k) :
    Calls Tryd.prog 64 #[.pointer (some ⟨t, 0, none⟩), .int .i64 (ad 10 (pre 10 k) : Nat), .int .u64 k] w fun e w' => e = .returned (.bool (decide (k ∈ l))) ∧ Nw w w' := by
  obtain ⟨z, hz1, hz2⟩ := hz
  obtain ⟨x, hx, hok⟩ := h.at (i := 10) (Nat.le_refl _) hz1
  rw [hz2] at hx hok
  have hg := get_digit hok (Nat.le_refl _)
  have HG : Hid (getN x.b (dig 10 k : Nat) = decide (k ∈ l)) := Lib.hid (by
    rw [hg]
    apply decide_eq_decide.2
    constructor
    · rintro ⟨y, h1, h2⟩
      rw [pre_key, pre_key] at h2
      rwa [← h2]
    · exact fun h => ⟨k, h, rfl⟩)
  have HGC := Lib.hid (fun w' => get_calls x.b (dig 10 k : Nat) w' hok.bl)
  have HAt := Lib.hid (fun w' => tat_calls k 10 w' hk (Nat.le_refl _))
  have HS := Lib.hid (fun w' c => tsee_calls t m p lim root l ad rows free cv fv w' c)
  have H := Lib.hid h
  have HX := Lib.hid hx
  have ht := h.lt
  have c1 : w.cell? ⟨t, 1, none⟩ = some (.pointer (some ⟨p, 0, none⟩)) := blk_cell h.blk 1
  clear h hx hok hg hz1 hz2
  go_enter Tryd.func64, Tryd.ntmps64
  go_wp2_with (first | (go_at_call 48; refine (HS.out _ c1 H.out.pl _ x HX.out).mono ?_; rintro e w1 ⟨rfl, hf⟩; have HF := Lib.hid hf; clear hf))
  refine wp_still 5 (by kernel_rfl) (by kernel_rfl) ?_
  simp only [List.take_succ_cons, List.take_zero, List.drop_succ_cons, List.drop_zero]
  repeat still_step
  still_call (Calls.mono (HAt.out _) (fun _ _ h => ⟨h.1, h.2.symm⟩))
  repeat still_step
  still_call (Calls.mono (HGC.out _) (fun _ _ h => ⟨h.1, h.2.symm⟩))
  repeat still_step
  refine wpStill_nil ?_
  go_wp2
  go_ret
  exact ⟨by rw [HG.out]; rfl, (HF.out.alloc _).drew⟩

set_option maxRecDepth 100000 in
set_option maxHeartbeats 1000000 in
theorem thas_calls (t m p lim root : Nat) (l : List Nat) (ad : Ad) (rows : List (Option Nd)) (free : List Nat) (cv fv : Value) (tk : Int) (w : World) (h : TI w t m p l lim ad rows free cv fv root) (hm : MT w m tk) (k : Nat) (hk : k < 18446744073709551616) :
    Calls Tryd.prog 26 #[.pointer (some ⟨t, 0, none⟩), .int .u64 k] w fun e w' => e = .returned (.bool (decide (k ∈ l))) ∧ TI w' t m p l lim ad rows free cv fv root ∧ (∃ tk' : Int, 0 ≤ tk' ∧ tk' ≤ 11 ∧ MT w' m tk') ∧ Fr (One m) w w' := by
  obtain ⟨d, hd⟩ := depth_exists l k
  have hd : Dep l k d := hd
  have HS := Lib.hid (fun w' (h : TI w' t m p l lim ad rows free cv fv root) (hm : MT w' m tk) => tstart_calls t m p lim root l ad rows free cv fv tk w' h hm)
  have HP := Lib.hid (fun w' (h : TI w' t m p l lim ad rows free cv fv root) (hm : MT w' m 0) => tpath_calls t m p lim root l ad rows free cv fv 0 w' h hm (by omega) (by omega) k d hk hd)
  have HD := Lib.hid hd
  have H := Lib.hid h
  have HM := Lib.hid hm
  have hd11 := hd.1
  by_cases hne : l = []
  · have HNE : Hid (decide (l ≠ []) = false) := Lib.hid (by simp [hne])
    have HK : Hid (decide (k ∈ l) = false) := Lib.hid (by simp [hne])
    clear h hm hd
    go_enter Tryd.func26, Tryd.ntmps26
    go_wp2_with (first | (go_at_call 40; refine (HS.out _ H.out HM.out).mono ?_; rintro e w1 ⟨rfl, ht1, hm1, hf1⟩; rw [HNE.out]))
    go_ret
    exact ⟨by rw [HK.out]; rfl, ht1, ⟨0, by omega, by omega, hm1⟩, hf1⟩
  · have HNE : Hid (decide (l ≠ []) = true) := Lib.hid (by simp [hne])
    have hd0 : 0 < d := by
      obtain ⟨z, hz⟩ := List.exists_mem_of_ne_nil _ hne
      exact (hd.2 0 (by omega)).1 ⟨z, hz, by rw [pre_zero hk, pre_zero (h.bd z hz)]⟩
    by_cases hd1 : d = 11
    · subst hd1
      have HL := Lib.hid (fun w' (h : TI w' t m p l lim ad rows free cv fv root) => tlast_calls t m p lim root l ad rows free cv fv w' h k hk ((hd.2 10 (by omega)).2 (by omega)))
      clear h hm hd
      go_enter Tryd.func26, Tryd.ntmps26
      go_wp2_with (first | (go_at_call 40; refine (HS.out _ H.out HM.out).mono ?_; rintro e w1 ⟨rfl, ht1, hm1, hf1⟩; rw [HNE.out]; have HT1 := Lib.hid ht1; have HM1 := Lib.hid hm1; have HF1 := Lib.hid hf1; clear ht1 hm1 hf1) | (go_at_call 52; refine (HP.out _ HT1.out HM1.out).mono ?_; rintro e w2 ⟨v', rfl, hR, hm2, hf2⟩; obtain ⟨g, cp, rfl, _, _⟩ := World.ownsRow.form (Kd.own_of_R hR) (by rw [way_len]; omega); rw [way_len]; have hc10 : w2.cell? ⟨g, 10, none⟩ = some (.int .i64 (ad 10 (pre 10 k) : Nat)) := (by have ho := Kd.own_of_R hR; rw [way_len] at ho; rw [ho.cellAt _ (by omega)]; simp only [encs, List.getElem?_map, way_get ad k 11 10 (by omega), Option.map_some]); have HT2 := Lib.hid (HT1.out.meter HM1.out hf2); have HM2 := Lib.hid hm2; have HF2 := Lib.hid (HF1.out.trans hf2); clear hR hm2 hf2) | (go_at_call 64; refine (HL.out _ HT2.out).mono ?_; rintro e w3 ⟨rfl, hf3⟩; have HF3 := Lib.hid hf3; clear hf3))
      go_ret
      exact ⟨rfl, HT2.out.nw HF3.out, ⟨_, by omega, by omega, HM2.out.fr HF3.out (fun h => h)⟩, HF2.out.trans (HF3.out.mono (fun _ _ h => h.elim))⟩
    · have HK : Hid (decide (k ∈ l) = false) := Lib.hid (decide_eq_false (fun hkl => hd1 (by
        have := (hd.2 10 (by omega)).1 ⟨k, hkl, rfl⟩
        omega)))
      have hde : ((d : Int) == 11) = false := by simp; omega
      clear h hm hd
      go_enter Tryd.func26, Tryd.ntmps26
      go_wp2_with (first | (go_at_call 40; refine (HS.out _ H.out HM.out).mono ?_; rintro e w1 ⟨rfl, ht1, hm1, hf1⟩; rw [HNE.out]; have HT1 := Lib.hid ht1; have HM1 := Lib.hid hm1; have HF1 := Lib.hid hf1; clear ht1 hm1 hf1) | (go_at_call 52; refine (HP.out _ HT1.out HM1.out).mono ?_; rintro e w2 ⟨v', rfl, hR, hm2, hf2⟩; obtain ⟨g, cp, rfl, _, _⟩ := World.ownsRow.form (Kd.own_of_R hR) (by rw [way_len]; omega); rw [way_len]; have HT2 := Lib.hid (HT1.out.meter HM1.out hf2); have HM2 := Lib.hid hm2; have HF2 := Lib.hid (HF1.out.trans hf2); clear hR hm2 hf2))
      go_ret
      exact ⟨by rw [HK.out]; rfl, HT2.out, ⟨_, by omega, by omega, HM2.out⟩, HF2.out⟩
end Go.Proofs.YtnhdcefoigmjpaaDoor

/-
  The contracts of a trie's Len, Used, Limit, Min, Max.
-/

namespace Go.Proofs.YtnhdcefoigmjpaaDoor
open Go.RowKit Go.Proofs.YtnhdcefoigmjpaaDoorW.PrintWords Go.Proofs.YtnhdcefoigmjpaaDoorW.PrintMore
attribute [local go_sem] max2_int min2_int max_two min_two
set_option linter.unusedVariables false
set_option linter.unusedSimpArgs false
set_option maxHeartbeats 1000000 in
theorem tlen_calls (t m p lim root : Nat) (l : List Nat) (ad : Ad) (rows : List (Option Nd)) (free : List Nat) (cv fv : Value) (w : World) (h : TI w t m p l lim ad rows free cv fv root) :
    Calls Tryd.prog 30 #[.pointer (some ⟨t, 0, none⟩)] w fun e w' => e = .returned (.int .i64 l.length) ∧ w = w' := by
  have c3 : w.cell? ⟨t, 3, none⟩ = some (.int .i64 l.length) := blk_cell h.blk 3
  clear h
  go_enter Tryd.func30, Tryd.ntmps30
  go_wp2
  go_ret
  exact ⟨rfl, rfl⟩
set_option maxHeartbeats 1000000 in
theorem tused_calls (t m p lim root : Nat) (l : List Nat) (ad : Ad) (rows : List (Option Nd)) (free : List Nat) (cv fv : Value) (w : World) (h : TI w t m p l lim ad rows free cv fv root) :
    Calls Tryd.prog 19 #[.pointer (some ⟨t, 0, none⟩)] w fun e w' => e = .returned (.int .i64 (used l : Nat)) ∧ w = w' := by
  have c1 : w.cell? ⟨t, 1, none⟩ = some (.pointer (some ⟨p, 0, none⟩)) := blk_cell h.blk 1
  have H := Lib.hid h
  clear h
  go_enter Tryd.func19, Tryd.ntmps19
  go_wp2_with (go_at_call 47; refine (pl_len p m rows free lim cv fv _ H.out.pl).mono ?_; rintro e w' ⟨rfl, rfl⟩; rw [H.out.live])
  go_ret
  exact ⟨rfl, rfl⟩
set_option maxHeartbeats 1000000 in
theorem tlimit_calls (t m p lim root : Nat) (l : List Nat) (ad : Ad) (rows : List (Option Nd)) (free : List Nat) (cv fv : Value) (w : World) (h : TI w t m p l lim ad rows free cv fv root) :
    Calls Tryd.prog 31 #[.pointer (some ⟨t, 0, none⟩)] w fun e w' => e = .returned (.int .i64 lim) ∧ w = w' := by
  have c1 : w.cell? ⟨t, 1, none⟩ = some (.pointer (some ⟨p, 0, none⟩)) := blk_cell h.blk 1
  have H := Lib.hid h
  clear h
  go_enter Tryd.func31, Tryd.ntmps31
  go_wp2_with (go_at_call 67; refine (pl_limit p m rows free lim cv fv _ H.out.pl).mono ?_; rintro e w' ⟨rfl, rfl⟩)
  go_ret
  exact ⟨rfl, rfl⟩
set_option maxRecDepth 100000 in
set_option maxHeartbeats 1000000 in
theorem tfirst_calls (t m p lim root : Nat) (l : List Nat) (ad : Ad) (rows : List (Option Nd)) (free : List Nat) (cv fv : Value) (tk : Int) (w : World) (h : TI w t m p l lim ad rows free cv fv root) (hm : MT w m tk) :
    Calls Tryd.prog 65 #[.pointer (some ⟨t, 0, none⟩)] w fun e w' => ∃ x : Nd, e = .returned (.tuple #[(Value.agg #[Value.int IntKind.u64 (Nd.b x), Value.slice (Nd.ka x) (Nd.kn x) (Nd.kc x), Value.int IntKind.i64 (Nd.n x), Value.int IntKind.u64 (Nd.lo x), Value.int IntKind.u64 (Nd.hi x)]), .bool (decide (l ≠ []))]) ∧ x.lo = l.headD 0 ∧ x.hi = l.getLastD 0 ∧ TI w' t m p l lim ad rows free cv fv root ∧ (∃ tk' : Int, 0 ≤ tk' ∧ tk' ≤ 1 ∧ MT w' m tk') ∧ Fr (One m) w w' := by
  have HS := Lib.hid (fun w' (h : TI w' t m p l lim ad rows free cv fv root) (hm : MT w' m tk) => tstart_calls t m p lim root l ad rows free cv fv tk w' h hm)
  have H := Lib.hid h
  have HM := Lib.hid hm
  have hml := hm.mlt
  by_cases hne : l = []
  · have HNE : Hid (decide (l ≠ []) = false) := Lib.hid (by simp [hne])
    clear h hm
    go_enter Tryd.func65, Tryd.ntmps65
    go_wp2_with (first | (go_at_call 40; refine (HS.out _ (H.out.nw ((Fr.refl _ _).alloc _)) (HM.out.fr (S := fun _ => False) ((Fr.refl _ _).alloc _) (fun h => h))).mono ?_; rintro e w1 ⟨rfl, ht1, hm1, hf1⟩; rw [HNE.out]; have hb4 := hf1.blk (blk_new w _) (by simp only [One]; omega); obtain ⟨r0, r1, r2, r3, r4⟩ := nd_cells hb4; have g0 := blk_frozen hb4 0; have g1 := blk_frozen hb4 1; have g2 := blk_frozen hb4 2; have g3 := blk_frozen hb4 3; have g4 := blk_frozen hb4 4; have HB4 := Lib.hid hb4; have HT1 := Lib.hid ht1; have HM1 := Lib.hid hm1; have HF1 := Lib.hid (((Fr.refl _ w).alloc _).trans hf1); clear ht1 hm1 hf1 hb4))
    have hB : (((((w1.setCell ⟨w.heap.size, 0, none⟩ (.int .u64 0)).setCell ⟨w.heap.size, 1, none⟩ (.slice none 0 0)).setCell ⟨w.heap.size, 2, none⟩ (.int .i64 0)).setCell ⟨w.heap.size, 3, none⟩ (.int .u64 0)).setCell ⟨w.heap.size, 4, none⟩ (.int .u64 0)).heap[w.heap.size]? = some (.cells #[.int .u64 0, .slice none 0 0, .int .i64 0, .int .u64 0, .int .u64 0] 73) := blk_put5 HB4.out Nd.zero
    have HG9 : Hid (Fr (One w.heap.size) w1 (((((w1.setCell ⟨w.heap.size, 0, none⟩ (.int .u64 0)).setCell ⟨w.heap.size, 1, none⟩ (.slice none 0 0)).setCell ⟨w.heap.size, 2, none⟩ (.int .i64 0)).setCell ⟨w.heap.size, 3, none⟩ (.int .u64 0)).setCell ⟨w.heap.size, 4, none⟩ (.int .u64 0))) := Lib.hid (fr_put5 w1 w.heap.size Nd.zero)
    generalize (((((w1.setCell ⟨w.heap.size, 0, none⟩ (.int .u64 0)).setCell ⟨w.heap.size, 1, none⟩ (.slice none 0 0)).setCell ⟨w.heap.size, 2, none⟩ (.int .i64 0)).setCell ⟨w.heap.size, 3, none⟩ (.int .u64 0)).setCell ⟨w.heap.size, 4, none⟩ (.int .u64 0)) = W9 at hB HG9 ⊢
    obtain ⟨s0, s1, s2, s3, s4⟩ := nd_cells hB
    refine bodyPost_ret (by simp [results, Tryd.results65, go_sem, s0, s1, s2, s3, s4]; try rfl) rfl ?_
    have HF9 : Fr (One m) w W9 := HF1.out.trans_new HG9.out (Nat.le_refl _)
    exact ⟨Nd.zero, by rw [HNE.out]; rfl, by rw [hne]; rfl, by rw [hne]; rfl, H.out.meter HM.out HF9, ⟨0, by omega, by omega, HM1.out.fr HG9.out (by simp only [One]; omega)⟩, HF9⟩
  · have HNE : Hid (decide (l ≠ []) = true) := Lib.hid (by simp [hne])
    obtain ⟨z, hz⟩ := List.exists_mem_of_ne_nil _ hne
    obtain ⟨x, hx, hok⟩ := h.at (i := 0) (by omega) hz
    rw [pre_zero (h.bd z hz), ← h.root hne] at hx
    rw [pre_zero (h.bd z hz)] at hok
    have hcl := cls_root h.bd
    have E1 : Hid (x.lo = l.headD 0) := Lib.hid (by rw [hok.lo, hcl])
    have E2 : Hid (x.hi = l.getLastD 0) := Lib.hid (by rw [hok.hi, hcl])
    have HX := Lib.hid hx
    clear h hm hx hok hz hcl
    go_enter Tryd.func65, Tryd.ntmps65
    go_wp2_with (first | (go_at_call 40; refine (HS.out _ (H.out.nw ((Fr.refl _ _).alloc _)) (HM.out.fr (S := fun _ => False) ((Fr.refl _ _).alloc _) (fun h => h))).mono ?_; rintro e w1 ⟨rfl, ht1, hm1, hf1⟩; rw [HNE.out]; have hb4 := hf1.blk (blk_new w _) (by simp only [One]; omega); have c1 : w1.cell? ⟨t, 1, none⟩ = some (.pointer (some ⟨p, 0, none⟩)) := blk_cell ht1.blk 1; have c2 : w1.cell? ⟨t, 2, none⟩ = some (.int .i64 root) := blk_cell ht1.blk 2; have HB4 := Lib.hid hb4; have HT1 := Lib.hid ht1; have HM1 := Lib.hid hm1; have HF1 := Lib.hid (((Fr.refl _ w).alloc _).trans hf1); clear ht1 hm1 hf1 hb4))
    go_region_law ((go_simp; go_at_call 41; refine (pl_at p m rows free lim cv fv 0 _ (HT1.out.pl.nw (Fr.refl _ _).drew) (HM1.out.fr (S := fun _ => False) (Fr.refl _ _).drew (fun h => h)) (by omega) (by omega) root x HX.out).mono ?_; rintro e w3 ⟨rfl, hm3, hf3⟩; have hb5 := hf3.blk (blk_drew HB4.out) (by simp only [One]; omega); obtain ⟨r0, r1, r2, r3, r4⟩ := nd_cells hb5; have g0 := blk_frozen hb5 0; have g1 := blk_frozen hb5 1; have g2 := blk_frozen hb5 2; have g3 := blk_frozen hb5 3; have g4 := blk_frozen hb5 4; have HB5 := Lib.hid hb5; have HM3 := Lib.hid hm3; have HF3 := Lib.hid hf3; clear hb5 hm3 hf3))
    all_goals go_wp2
    all_goals (
      have hB := blk_put5 HB5.out x
      have HF9 : Hid (Fr (One m) w (((((w3.setCell ⟨w.heap.size, 0, none⟩ (.int .u64 x.b)).setCell ⟨w.heap.size, 1, none⟩ (.slice x.ka x.kn x.kc)).setCell ⟨w.heap.size, 2, none⟩ (.int .i64 x.n)).setCell ⟨w.heap.size, 3, none⟩ (.int .u64 x.lo)).setCell ⟨w.heap.size, 4, none⟩ (.int .u64 x.hi))) := Lib.hid (((HF1.out.trans (Fr.refl _ w1).drew).trans HF3.out).trans_new (fr_put5 w3 w.heap.size x) (Nat.le_refl _))
      have HM9 : Hid (MT (((((w3.setCell ⟨w.heap.size, 0, none⟩ (.int .u64 x.b)).setCell ⟨w.heap.size, 1, none⟩ (.slice x.ka x.kn x.kc)).setCell ⟨w.heap.size, 2, none⟩ (.int .i64 x.n)).setCell ⟨w.heap.size, 3, none⟩ (.int .u64 x.lo)).setCell ⟨w.heap.size, 4, none⟩ (.int .u64 x.hi)) m (0 + 1)) := Lib.hid (HM3.out.fr (fr_put5 w3 w.heap.size x) (by simp only [One]; omega))
      generalize (((((w3.setCell ⟨w.heap.size, 0, none⟩ (.int .u64 x.b)).setCell ⟨w.heap.size, 1, none⟩ (.slice x.ka x.kn x.kc)).setCell ⟨w.heap.size, 2, none⟩ (.int .i64 x.n)).setCell ⟨w.heap.size, 3, none⟩ (.int .u64 x.lo)).setCell ⟨w.heap.size, 4, none⟩ (.int .u64 x.hi)) = W9 at hB HF9 HM9 ⊢
      obtain ⟨s0, s1, s2, s3, s4⟩ := nd_cells hB
      refine bodyPost_ret (by simp [results, Tryd.results65, go_sem, s0, s1, s2, s3, s4]; try rfl) rfl ?_
      exact ⟨x, by rw [HNE.out], E1.out, E2.out, H.out.meter HM.out HF9.out, ⟨_, by omega, by omega, HM9.out⟩, HF9.out⟩)
set_option maxRecDepth 100000 in
set_option maxHeartbeats 1000000 in
theorem tmin_calls (t m p lim root : Nat) (l : List Nat) (ad : Ad) (rows : List (Option Nd)) (free : List Nat) (cv fv : Value) (tk : Int) (w : World) (h : TI w t m p l lim ad rows free cv fv root) (hm : MT w m tk) :
    Calls Tryd.prog 27 #[.pointer (some ⟨t, 0, none⟩)] w fun e w' => e = .returned (.tuple #[.int .u64 (l.headD 0 : Nat), .bool (decide (l ≠ []))]) ∧ TI w' t m p l lim ad rows free cv fv root ∧ (∃ tk' : Int, 0 ≤ tk' ∧ tk' ≤ 1 ∧ MT w' m tk') ∧ Fr (One m) w w' := by
  have HC := Lib.hid (tfirst_calls t m p lim root l ad rows free cv fv tk w h hm)
  have H := Lib.hid h
  have HM := Lib.hid hm
  obtain ⟨b, hb⟩ : ∃ b, b = decide (l ≠ []) := ⟨_, rfl⟩
  rw [← hb] at HC ⊢
  clear h hm hb
  go_enter Tryd.func27, Tryd.ntmps27
  go_wp2_with (first | (go_at_call 65; refine HC.out.mono ?_; rintro e w1 ⟨x, rfl, e1, e2, ht1, hm1, hf1⟩; have HT1 := Lib.hid ht1; have HM1 := Lib.hid hm1; have HF1 := Lib.hid hf1; have E1 := Lib.hid e1; clear ht1 hm1 hf1 e1 e2))
  go_returns
  obtain ⟨tk', q1, q2, q3⟩ := HM1.out
  exact ⟨by rw [E1.out]; rfl, HT1.out.nw ((Fr.refl _ _).alloc _), ⟨tk', q1, q2, q3.fr (S := fun _ => False) ((Fr.refl _ _).alloc _) (fun h => h)⟩, HF1.out.alloc _⟩
set_option maxRecDepth 100000 in
set_option maxHeartbeats 1000000 in
theorem tmax_calls (t m p lim root : Nat) (l : List Nat) (ad : Ad) (rows : List (Option Nd)) (free : List Nat) (cv fv : Value) (tk : Int) (w : World) (h : TI w t m p l lim ad rows free cv fv root) (hm : MT w m tk) :
    Calls Tryd.prog 28 #[.pointer (some ⟨t, 0, none⟩)] w fun e w' => e = .returned (.tuple #[.int .u64 (l.getLastD 0 : Nat), .bool (decide (l ≠ []))]) ∧ TI w' t m p l lim ad rows free cv fv root ∧ (∃ tk' : Int, 0 ≤ tk' ∧ tk' ≤ 1 ∧ MT w' m tk') ∧ Fr (One m) w w' := by
  have HC := Lib.hid (tfirst_calls t m p lim root l ad rows free cv fv tk w h hm)
  have H := Lib.hid h
  have HM := Lib.hid hm
  obtain ⟨b, hb⟩ : ∃ b, b = decide (l ≠ []) := ⟨_, rfl⟩
  rw [← hb] at HC ⊢
  clear h hm hb
  go_enter Tryd.func28, Tryd.ntmps28
  go_wp2_with (first | (go_at_call 65; refine HC.out.mono ?_; rintro e w1 ⟨x, rfl, e1, e2, ht1, hm1, hf1⟩; have HT1 := Lib.hid ht1; have HM1 := Lib.hid hm1; have HF1 := Lib.hid hf1; have E1 := Lib.hid e2; clear ht1 hm1 hf1 e1 e2))
  go_returns
  obtain ⟨tk', q1, q2, q3⟩ := HM1.out
  exact ⟨by rw [E1.out]; rfl, HT1.out.nw ((Fr.refl _ _).alloc _), ⟨tk', q1, q2, q3.fr (S := fun _ => False) ((Fr.refl _ _).alloc _) (fun h => h)⟩, HF1.out.alloc _⟩
end Go.Proofs.YtnhdcefoigmjpaaDoor

/-
  The contracts of a new pool, and of a new trie.
-/

namespace Go.Proofs.YtnhdcefoigmjpaaDoor
open Go.RowKit Go.Proofs.YtnhdcefoigmjpaaDoorW.PrintWords Go.Proofs.YtnhdcefoigmjpaaDoorW.PrintMore
attribute [local go_sem] max2_int min2_int max_two min_two
set_option linter.unusedVariables false
set_option linter.unusedSimpArgs false
theorem pl_fresh (W : World) (m lim : Nat) (hl : lim ≤ 1048576) : Pl (W.alloc (.cells #[.pointer (some ⟨m, 0, none⟩), .slice none 0 0, .slice none 0 0, .int .i64 0, .int .i64 lim] 102)) W.heap.size m [] [] lim (.slice none 0 0) (.slice none 0 0) :=
  ⟨blk_new _ _, ⟨rfl, .inl ⟨rfl, rfl⟩⟩, Kd.R_nil _ _ _ _ _, fun j hj => (by cases hj), List.nodup_nil, rfl, Nat.zero_le _, hl⟩
set_option maxRecDepth 100000 in
set_option maxHeartbeats 1000000 in
theorem pnew_ok (m lim : Nat) (w : World) (hl : lim ≤ 1048576) :
    Calls Tryd.prog 39 #[.pointer (some ⟨m, 0, none⟩), .int .i64 lim] w fun e w' => ∃ p, e = .returned (.tuple #[.pointer (some ⟨p, 0, none⟩), .int .i64 0]) ∧ w.heap.size ≤ p ∧ Pl w' p m [] [] lim (.slice none 0 0) (.slice none 0 0) ∧ Nw w w' := by
  have h1 : ¬ ((lim : Int) < 0) := by omega
  have h2 : ¬ ((1048576 : Int) < lim) := by omega
  go_enter Tryd.func39, Tryd.ntmps39
  go_wp2
  go_returns
  exact ⟨_, rfl, Nat.le_refl _, pl_fresh w m lim hl, (Fr.refl _ _).alloc _⟩
set_option maxRecDepth 100000 in
set_option maxHeartbeats 1000000 in
theorem pnew_bad (m : Nat) (lim : Int) (w : World) (hl : lim < 0 ∨ 1048576 < lim) :
    Calls Tryd.prog 39 #[.pointer (some ⟨m, 0, none⟩), .int .i64 lim] w fun e w' => e = .returned (.tuple #[.pointer none, .int .i64 1]) ∧ Nw w w' := by
  by_cases h1 : lim < 0
  · go_enter Tryd.func39, Tryd.ntmps39
    go_wp2
    go_returns
    exact ⟨rfl, Fr.refl _ _⟩
  · have h2 : (1048576 : Int) < lim := by omega
    clear hl
    go_enter Tryd.func39, Tryd.ntmps39
    go_wp2
    go_returns
    exact ⟨rfl, Fr.refl _ _⟩
theorem ti_fresh {W : World} {m p lim : Nat} (h : Pl W p m [] [] lim (.slice none 0 0) (.slice none 0 0)) : TI (W.alloc (.cells #[.pointer (some ⟨m, 0, none⟩), .pointer (some ⟨p, 0, none⟩), .int .i64 0, .int .i64 0] 64)) W.heap.size m p [] lim (fun _ _ => 0) [] [] (.slice none 0 0) (.slice none 0 0) 0 :=
  ⟨blk_new _ _, h.nw ((Fr.refl _ _).alloc _), ⟨fun i _ k hk => (by cases hk), fun i j _ _ x hx => (by cases hx)⟩, by simp [used_nil, liveN], List.Pairwise.nil, fun x hx => (by cases hx), by simp, fun h => absurd rfl h⟩
set_option maxRecDepth 100000 in
set_option maxHeartbeats 1000000 in
theorem tnew_ok' (lim : Nat) (w : World) (hl : lim ≤ 1048576) :
    Calls Tryd.prog 10 #[.int .i64 lim] w fun e w' => ∃ t m p, e = .returned (.tuple #[.pointer (some ⟨t, 0, none⟩), .int .i64 0]) ∧ w.heap.size ≤ t ∧ w.heap.size ≤ m ∧ w.heap.size ≤ p ∧ TI w' t m p [] lim (fun _ _ => 0) [] [] (.slice none 0 0) (.slice none 0 0) 0 ∧ MT w' m 0 ∧ Nw w w' := by
  go_enter Tryd.func10, Tryd.ntmps10
  go_wp2_with (first | (go_at_call 38; refine (mt_new _).mono ?_; rintro e w1 ⟨m, rfl, hm1, hm2, hf1⟩; have HM := Lib.hid hm2; have HF1 := Lib.hid hf1; clear hm2 hf1) | (go_at_call 39; refine (pnew_ok m lim _ hl).mono ?_; rintro e w2 ⟨p, rfl, hp, hpl, hf2⟩; have HP := Lib.hid hpl; have HF2 := Lib.hid hf2; clear hpl hf2))
  go_returns
  exact ⟨_, m, p, rfl, by have h1 := HF1.out.size; have h2 := HF2.out.size; omega, hm1, by have h1 := HF1.out.size; omega, ti_fresh HP.out, (HM.out.fr HF2.out (fun h => h)).fr (S := fun _ => False) ((Fr.refl _ _).alloc _) (fun h => h), (HF1.out.trans HF2.out).alloc _⟩
set_option maxRecDepth 100000 in
set_option maxHeartbeats 1000000 in
theorem tnew_bad (lim : Int) (w : World) (hl : lim < 0 ∨ 1048576 < lim) :
    Calls Tryd.prog 10 #[.int .i64 lim] w fun e w' => e = .returned (.tuple #[.pointer none, .int .i64 1]) ∧ Nw w w' := by
  have HL := Lib.hid hl
  clear hl
  go_enter Tryd.func10, Tryd.ntmps10
  go_wp2_with (first | (go_at_call 38; refine (mt_new _).mono ?_; rintro e w1 ⟨m, rfl, hm1, hm2, hf1⟩; have HF1 := Lib.hid hf1; clear hm2 hf1) | (go_at_call 39; refine (pnew_bad m lim _ HL.out).mono ?_; rintro e w2 ⟨rfl, hf2⟩; have HF2 := Lib.hid hf2; clear hf2))
  go_returns
  exact ⟨rfl, HF1.out.trans HF2.out⟩
end Go.Proofs.YtnhdcefoigmjpaaDoor

