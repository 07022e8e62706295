/-
  Merged by merge.py: TrRefs TrEach TrLaw.
-/
import Derived.Test.YtnhdcefoigmjpaaDoorTrG
import Derived.Test.YtnhdcefoigmjpaaDoorTrPrint
import Derived.Deep.CutRange
/-
  What the reference's Find, Add, Of, Words and SameKeys compute, in plain words.
-/
namespace Go.Proofs.YtnhdcefoigmjpaaDoor
open Go.RowKit Go.Proofs.YtnhdcefoigmjpaaDoorW.PrintWords Go.Proofs.YtnhdcefoigmjpaaDoorW.PrintMore Go.Proofs.YtnhdcefoigmjpaaDoor.PTrieWalks
set_option linter.unusedVariables false
set_option linter.unusedSimpArgs false

theorem rd_keys (l : List Nat) (i : Nat) (x : Nat) (h : l[i]? = some x) : rd (keysI l) (i : Nat) = (x : Nat) := by
  unfold rd keysI
  rw [Int.toNat_natCast, List.getD_eq_getElem?_getD, List.getElem?_map, h]; rfl
theorem wrap_next {i n : Nat} (h : i < n) (hn : n ≤ 140737488351232) : wrap64 ((i : Int) + 1) = ((i + 1 : Nat) : Int) := by unfold wrap64; omega
theorem cnt_lt {l : List Nat} (h : Up l) (a i x : Nat) (hx : l[i]? = some x) : x < a ↔ i < cntLt l a := by
  obtain ⟨h1, h2⟩ := cnt_cut h a
  have hlt := (List.getElem?_eq_some_iff.1 hx).1
  constructor
  · intro hxa
    rcases Nat.lt_or_ge i (cntLt l a) with h3 | h3
    · exact h3
    · have h4 : x ∈ l.drop (cntLt l a) := List.mem_of_getElem? (i := i - cntLt l a) (by rw [List.getElem?_drop, Nat.add_sub_cancel' h3]; exact hx)
      rw [h2] at h4
      have := of_decide_eq_true (List.mem_filter.1 h4).2
      omega
  · intro h3
    have h4 : x ∈ l.take (cntLt l a) := List.mem_of_getElem? (i := i) (by rw [List.getElem?_take, if_pos h3]; exact hx)
    rw [h1] at h4
    exact of_decide_eq_true (List.mem_filter.1 h4).2
theorem find_l0 {l : List Nat} (h : Up l) (hlen : l.length ≤ 1000000) (a : Nat) : ∀ n i : Nat, l.length ≤ i + n → i ≤ cntLt l a → stepstoneref11_Find.l0 (n + 1) (keysI l) (a : Nat) (i : Nat) = some (((cntLt l a : Nat) : Int), decide (a ∈ l)) := by
  have hc := cnt_le l a
  have hthere := cnt_there h a
  have stop : ∀ n i : Nat, ¬ i < l.length → i ≤ cntLt l a → stepstoneref11_Find.l0 (n + 1) (keysI l) (a : Nat) (i : Nat) = some (((cntLt l a : Nat) : Int), decide (a ∈ l)) := by
    intro n i hi hic
    have e : i = cntLt l a := by omega
    have hn : a ∉ l := fun hm => by rw [← hthere, List.getElem?_eq_none (by omega)] at hm; cases hm
    unfold stepstoneref11_Find.l0
    rw [keysI_len, if_neg (by omega), e, decide_eq_false hn]
  intro n
  induction n with
  | zero => intro i h1 h2; exact stop 0 i (by omega) h2
  | succ n ih =>
    intro i h1 h2
    by_cases hi : i < l.length
    · obtain ⟨x, hx⟩ : ∃ x, l[i]? = some x := ⟨_, List.getElem?_eq_getElem hi⟩
      have hr := rd_keys l i _ hx
      have hl := cnt_lt h a i _ hx
      unfold stepstoneref11_Find.l0
      rw [keysI_len, if_pos (by omega), if_pos (by omega), hr]
      by_cases hxa : x < a
      · rw [if_pos (by omega), wrap_next hi (by omega)]
        exact ih (i + 1) (by omega) (hl.1 hxa)
      · rw [if_neg (by omega)]
        have e : i = cntLt l a := by have := mt hl.2 hxa; omega
        have e2 : (((x : Nat) : Int) == ((a : Nat) : Int)) = decide (a ∈ l) := by
          rw [e] at hx
          by_cases hm : a ∈ l
          · have h3 := hthere.2 hm
            rw [h3] at hx
            simp only [Option.some.injEq] at hx
            rw [decide_eq_true hm, hx]; simp
          · rw [decide_eq_false hm]
            have hne : ¬ x = a := fun e3 => hm (e3 ▸ List.mem_of_getElem? hx)
            simp; omega
        rw [e2, e]
    · exact stop (n + 1) i hi h2
theorem find_f {l : List Nat} (h : Up l) (hlen : l.length ≤ 1000000) (a n : Nat) (hn : l.length ≤ n) : stepstoneref11_Find.f (n + 1) (keysI l) (a : Nat) = some (((cntLt l a : Nat) : Int), decide (a ∈ l)) :=
  find_l0 h hlen a n 0 (by omega) (Nat.zero_le _)
def addN (l : List Nat) (a : Nat) : List Nat := if a ∈ l then l else insS l a
theorem add_f {l : List Nat} (h : Up l) (hlen : l.length ≤ 1000000) (a n : Nat) (hn : l.length ≤ n) : stepstoneref11_Add.f (n + 1) (keysI l) (a : Nat) = some (keysI (addN l a)) := by
  have hc := cnt_le l a
  unfold stepstoneref11_Add.f addN
  rw [find_f h hlen a n hn]
  simp only [Option.bind_some]
  by_cases hm : a ∈ l
  · rw [if_pos (by simpa using hm), if_pos hm]
  · rw [if_neg (by simpa using hm), if_neg hm, if_pos (by omega), if_pos (by rw [keysI_len]; omega), Int.toNat_natCast, if_pos (by simp [keysI_len]; omega), if_pos (by simp [keysI_len]; omega), if_pos (by simp [keysI_len]; omega)]
    congr 1
    rw [ins_cut h hm]
    simp [keysI, List.map_take, List.map_drop]
theorem up_addN {l : List Nat} (h : Up l) (a : Nat) : Up (addN l a) := by
  unfold addN
  split
  · exact h
  · rename_i hm; exact up_insS h hm
theorem addN_len (l : List Nat) (a : Nat) : (addN l a).length ≤ l.length + 1 := by
  unfold addN
  split
  · omega
  · rw [len_insS]; omega
def ofN (l : List Nat) : List Nat := l.foldl addN []
theorem ofN_up (l : List Nat) : ∀ acc, Up acc → Up (l.foldl addN acc) := by
  induction l with
  | nil => intro acc h; exact h
  | cons a l ih => intro acc h; exact ih _ (up_addN h a)
theorem ofN_len (l : List Nat) : ∀ acc : List Nat, (l.foldl addN acc).length ≤ acc.length + l.length := by
  induction l with
  | nil => intro acc; simp
  | cons a l ih => intro acc; have := ih (addN acc a); have := addN_len acc a; simp only [List.foldl_cons, List.length_cons]; omega
theorem mem_addN (l : List Nat) (a x : Nat) : x ∈ addN l a ↔ x = a ∨ x ∈ l := by
  unfold addN
  split
  · rename_i hm
    constructor
    · exact .inr
    · rintro (rfl | h)
      · exact hm
      · exact h
  · exact mem_insS l a x
theorem mem_ofN (l : List Nat) (x : Nat) : ∀ acc, x ∈ l.foldl addN acc ↔ x ∈ l ∨ x ∈ acc := by
  induction l with
  | nil => intro acc; simp
  | cons a l ih => intro acc; rw [List.foldl_cons, ih, mem_addN, List.mem_cons]; exact ⟨fun h => h.elim (fun h => .inl (.inr h)) (fun h => h.elim (fun h => .inl (.inl h)) .inr), fun h => h.elim (fun h => h.elim (fun h => .inr (.inl h)) .inl) (fun h => .inr (.inr h))⟩
theorem of_l0 (l : List Nat) (hlen : l.length ≤ 100000) : ∀ n i : Nat, l.length ≤ i + n → i ≤ l.length → ∀ (acc : List Nat) (K : Nat), n + l.length + 2 ≤ K → Up acc → acc.length ≤ i → stepstoneref11_Of.l0 K (keysI acc) (keysI l) (l.length : Nat) (i : Nat) = some (keysI ((l.drop i).foldl addN acc)) := by
  have stop : ∀ i : Nat, ¬ i < l.length → ∀ (acc : List Nat) (K : Nat), stepstoneref11_Of.l0 (K + 1) (keysI acc) (keysI l) (l.length : Nat) (i : Nat) = some (keysI ((l.drop i).foldl addN acc)) := by
    intro i hi acc K
    unfold stepstoneref11_Of.l0
    rw [if_neg (by omega), List.drop_of_length_le (by omega), List.foldl_nil]
  intro n
  induction n with
  | zero =>
    intro i h1 h2 acc K hK _ _
    obtain ⟨K1, rfl⟩ : ∃ K1, K = K1 + 1 := ⟨K - 1, by omega⟩
    exact stop i (by omega) acc K1
  | succ n ih =>
    intro i h1 h2 acc K hK hacc hal
    obtain ⟨K1, rfl⟩ : ∃ K1, K = K1 + 1 := ⟨K - 1, by omega⟩
    by_cases hi : i < l.length
    · obtain ⟨x, hx⟩ : ∃ x, l[i]? = some x := ⟨_, List.getElem?_eq_getElem hi⟩
      have hxe : l.drop i = x :: l.drop (i + 1) := by
        rw [List.drop_eq_getElem_cons hi]
        rw [List.getElem?_eq_getElem hi] at hx
        simp only [Option.some.injEq] at hx
        rw [hx]
      have hadd : stepstoneref11_Add.f K1 (keysI acc) (x : Nat) = some (keysI (addN acc x)) := by
        obtain ⟨K2, rfl⟩ : ∃ K2, K1 = K2 + 1 := ⟨K1 - 1, by omega⟩
        exact add_f hacc (by omega) x K2 (by omega)
      have hnx := ih (i + 1) (by omega) (by omega) (addN acc x) K1 (by omega) (up_addN hacc _) (by have := addN_len acc x; omega)
      unfold stepstoneref11_Of.l0
      rw [keysI_len, if_pos (by omega), if_pos (by omega), if_pos (by omega), rd_keys l i _ hx, hadd]
      simp only [Option.bind_some]
      rw [wrap_next hi (by omega), hnx, hxe, List.foldl_cons]
    · exact stop i hi acc K1
theorem of_f (l : List Nat) (hlen : l.length ≤ 100000) : stepstoneref11_Of.f (l.length + l.length + 2) (keysI l) = some (keysI (ofN l)) := by
  have := of_l0 l hlen l.length 0 (by omega) (Nat.zero_le _) [] (l.length + l.length + 2) (Nat.le_refl _) List.Pairwise.nil (by simp)
  unfold stepstoneref11_Of.f
  rw [keysI_len]
  exact this
theorem words_l0 (L : List Int) (hlen : L.length ≤ 140737488351232) (most : Nat) (hm : most ≤ 100000) : ∀ n i : Nat, L.length ≤ i + n → i ≤ L.length → stepstoneref01_Words.l0 (n + 1) (most : Nat) (L.take (min i most)) L (L.length : Nat) (i : Nat) = some (L.take most) := by
  have stop : ∀ n i : Nat, ¬ i < L.length → stepstoneref01_Words.l0 (n + 1) (most : Nat) (L.take (min i most)) L (L.length : Nat) (i : Nat) = some (L.take most) := by
    intro n i hi
    unfold stepstoneref01_Words.l0
    rw [if_neg (by omega)]
    congr 1
    rcases Nat.le_total i most with h | h
    · rw [Nat.min_eq_left h, List.take_of_length_le (by omega), List.take_of_length_le (by omega)]
    · rw [Nat.min_eq_right h]
  intro n
  induction n with
  | zero => intro i h1 h2; exact stop 0 i (by omega)
  | succ n ih =>
    intro i h1 h2
    by_cases hi : i < L.length
    · unfold stepstoneref01_Words.l0
      rw [if_pos (by omega), if_pos (by omega), if_pos (by omega), wrap_next hi hlen]
      by_cases him : i < most
      · have hmin : (L.take (min i most)).length < 17592186044416 := by rw [List.length_take]; omega
        rw [if_pos (by omega), if_pos hmin]
        have e : L.take (min i most) ++ [rd L (i : Nat)] = L.take (min (i + 1) most) := by
          rw [Nat.min_eq_left (by omega), Nat.min_eq_left (by omega), List.take_add_one, List.getElem?_eq_getElem hi]
          unfold rd
          rw [Int.toNat_natCast, List.getD_eq_getElem?_getD, List.getElem?_eq_getElem hi]; rfl
        rw [e]
        exact ih (i + 1) (by omega) (by omega)
      · rw [if_neg (by omega)]
        have e : min i most = min (i + 1) most := by omega
        rw [e]
        exact ih (i + 1) (by omega) (by omega)
    · exact stop (n + 1) i hi
theorem words_f (L : List Int) (hlen : L.length ≤ 140737488351232) (most : Nat) (hm : most ≤ 100000) : stepstoneref01_Words.f (L.length + 1) L (most : Nat) = some (L.take most) := by
  have := words_l0 L hlen most hm L.length 0 (by omega) (Nat.zero_le _)
  rw [Nat.zero_min, List.take_zero] at this
  exact this
theorem same_l0 (A C : List Int) (hlen : A.length ≤ 140737488351232) (he : A.length = C.length) : ∀ n i : Nat, A.length ≤ i + n → i ≤ A.length → stepstoneref01_SameKeys.l0 (n + 1) A C (A.length : Nat) (i : Nat) = some (decide (A.drop i = C.drop i)) := by
  have stop : ∀ n i : Nat, ¬ i < A.length → stepstoneref01_SameKeys.l0 (n + 1) A C (A.length : Nat) (i : Nat) = some (decide (A.drop i = C.drop i)) := by
    intro n i hi
    unfold stepstoneref01_SameKeys.l0
    rw [if_neg (by omega), List.drop_of_length_le (by omega), List.drop_of_length_le (by omega)]; rfl
  intro n
  induction n with
  | zero => intro i h1 h2; exact stop 0 i (by omega)
  | succ n ih =>
    intro i h1 h2
    by_cases hi : i < A.length
    · have hi2 : i < C.length := by omega
      have r1 : rd A (i : Nat) = A[i] := by unfold rd; rw [Int.toNat_natCast, List.getD_eq_getElem?_getD, List.getElem?_eq_getElem hi]; rfl
      have r2 : rd C (i : Nat) = C[i] := by unfold rd; rw [Int.toNat_natCast, List.getD_eq_getElem?_getD, List.getElem?_eq_getElem hi2]; rfl
      unfold stepstoneref01_SameKeys.l0
      rw [if_pos (by omega), if_pos (by omega), if_pos (by omega), if_pos (by omega), r1, r2, wrap_next hi hlen, List.drop_eq_getElem_cons hi, List.drop_eq_getElem_cons hi2]
      by_cases hx : A[i] = C[i]
      · rw [if_pos hx, ih (i + 1) (by omega) (by omega)]
        congr 1
        apply decide_eq_decide.2
        rw [hx]
        exact ⟨fun h => by rw [h], fun h => (List.cons.inj h).2⟩
      · rw [if_neg hx]
        congr 1
        rw [eq_comm, decide_eq_false_iff_not]
        intro h
        exact hx (List.cons.inj h).1
    · exact stop (n + 1) i hi
theorem same_f (A C : List Int) (hlen : A.length ≤ 140737488351232) : stepstoneref01_SameKeys.f (A.length + 1) A C = some (decide (A = C)) := by
  unfold stepstoneref01_SameKeys.f
  by_cases he : A.length = C.length
  · rw [if_pos (by omega)]
    exact same_l0 A C hlen he A.length 0 (by omega) (Nat.zero_le _)
  · rw [if_neg (by omega)]
    congr 1
    rw [eq_comm, decide_eq_false_iff_not]
    intro h; rw [h] at he; exact he rfl
theorem keysI_inj {a b : List Nat} (h : keysI a = keysI b) : a = b := by
  have h2 := congrArg (List.map Int.toNat) h
  simpa [keysI, List.map_map, Function.comp_def] using h2
end Go.Proofs.YtnhdcefoigmjpaaDoor

/-
  The contracts of a trie's Each, of the law's same and awake.
-/

namespace Go.Proofs.YtnhdcefoigmjpaaDoor
open Go.RowKit Go.Proofs.YtnhdcefoigmjpaaDoorW.PrintWords Go.Proofs.YtnhdcefoigmjpaaDoorW.PrintMore
attribute [local go_sem] max2_int min2_int max_two min_two
set_option linter.unusedVariables false
set_option linter.unusedSimpArgs false

/-- What Each leaves, and how many it took. -/
def eachF (lim : Nat) : List Nat → List Nat → List Nat × Nat
  | l, [] => (l, 0)
  | l, k :: ks => if k ∈ l then eachF lim l ks else if used (insS l k) ≤ lim then ((eachF lim (insS l k) ks).1, (eachF lim (insS l k) ks).2 + 1) else (l, 0)
theorem trb_u64 {W : World} {q : Nat} {cur : Array Value} (h : W.heap[q]? = some (.cells cur 31 (0, 0))) : ¬ TrB W q := by
  rintro ⟨cs, T, h1, h2⟩
  rw [h] at h1
  simp only [Option.some.injEq, Obj.cells.injEq] at h1
  rw [← h1.2.1] at h2
  exact absurd h2 (by decide)
theorem R_ft {B : Nat} {W W' : World} {v : Value} {xs : List Int} (h : Kd.R (Kd.int .u64) 31 W 0 (fun _ => True) v xs) (hf : FT B W W') : Kd.R (Kd.int .u64) 31 W' 0 (fun _ => True) v xs :=
  R_fr h hf (fun q hq e => by obtain ⟨_, hc⟩ := own_blk (Kd.own_of_R h) q hq; exact trb_u64 hc e.2)
theorem R_key {W : World} {A : Option Addr} {n c : Nat} {ks : List Nat} (h : Kd.R (Kd.int .u64) 31 W 0 (fun _ => True) (.slice A n c) (keysI ks)) {i x : Nat} (hx : ks[i]? = some x) : ∃ g, A = some ⟨g, 0, none⟩ ∧ W.cell? ⟨g, i, none⟩ = some (.int .u64 (x : Nat)) := by
  have hlt := (List.getElem?_eq_some_iff.1 hx).1
  rcases (Kd.own_of_R h).2 with ⟨_, e⟩ | ⟨g, cap, cur, e, _, hg, _, _, _, ht⟩
  · rw [keysI_len] at e; omega
  · simp only [Value.slice.injEq] at e
    obtain ⟨rfl, _, _⟩ := e
    refine ⟨g, rfl, ?_⟩
    rw [blk_cell hg]
    rw [Nat.mul_one, keysI_len] at ht
    have h7 : (cur.toList.take ks.length)[i]? = (encs (Value.int .u64) (keysI ks))[i]? := by rw [ht]
    rw [List.getElem?_take, if_pos hlt] at h7
    rw [← Array.getElem?_toList, h7]
    simp only [encs, keysI, List.getElem?_map, hx, Option.map_some]
theorem insE_len (lim : Nat) (l : List Nat) (k : Nat) : (insE lim l k).2.length ≤ l.length + 1 := by
  unfold insE
  split
  · simp
  · split
    · simp [len_insS]
    · simp
set_option maxRecDepth 100000 in
set_option maxHeartbeats 1000000 in
theorem each_calls (B t lim : Nat) (l ks : List Nat) (v : Value) (w : World) (h : TX w B t l lim) (hR : Kd.R (Kd.int .u64) 31 w 0 (fun _ => True) v (keysI ks)) (hB : B ≤ w.heap.size) (hkb : ∀ k, k ∈ ks → k < 18446744073709551616) (hlen : l.length + ks.length ≤ 1000000) :
    Calls Tryd.prog 13 #[.pointer (some ⟨t, 0, none⟩), v] w fun e w' => e = .returned (.int .i64 (eachF lim l ks).2) ∧ TX w' B t (eachF lim l ks).1 lim ∧ FT B w w' := by
  obtain ⟨A, c, rfl⟩ := R_form hR
  rw [keysI_len] at hR ⊢
  have HX := Lib.hid h
  have HR := Lib.hid hR
  have HKB := Lib.hid hkb
  clear h hR hkb
  go_enter Tryd.func13, Tryd.ntmps13
  go_wp2
  go_loopw [5, 7, 10, 16, 17, 21] (fun nv _ iv _ _ _ wr => ∃ (i n : Nat) (l' : List Nat), i ≤ ks.length ∧ n ≤ i ∧ nv = .int .i64 n ∧ iv = .int .i64 i ∧ Hid (eachF lim l ks = ((eachF lim l' (ks.drop i)).1, n + (eachF lim l' (ks.drop i)).2)) ∧ Hid (l'.length ≤ l.length + i) ∧ Hid (TX wr B t l' lim) ∧ Hid (FT B w wr)) (fun _ _ iv _ _ _ _ => ks.length - (intOf iv).toNat)
  case atStart => exact ⟨0, 0, l, by omega, by omega, rfl, rfl, Lib.hid (by simp), Lib.hid (by omega), HX, Lib.hid (FT.refl _ _)⟩
  case round =>
    obtain ⟨i, n, l', hi, hni, rfl, rfl, HE, HLL, HXr, HF⟩ := hrel
    by_cases hlt : i < ks.length
    · obtain ⟨x, hx⟩ : ∃ x, ks[i]? = some x := ⟨_, List.getElem?_eq_getElem hlt⟩
      obtain ⟨g, hA, hcx⟩ := R_key (R_ft HR.out HF.out) hx
      subst hA
      have hxm : x ∈ ks := List.mem_of_getElem? hx
      have hdr : ks.drop i = x :: ks.drop (i + 1) := by
        rw [List.drop_eq_getElem_cons hlt]
        rw [List.getElem?_eq_getElem hlt] at hx
        simp only [Option.some.injEq] at hx
        rw [hx]
      have HEE := Lib.hid (by have := HE.out; rw [hdr] at this; exact this)
      have HI := Lib.hid (tx_insert B t lim l' wr HXr.out (Nat.le_trans hB HF.out.size) x (HKB.out x hxm) (by have := HLL.out; omega))
      obtain ⟨er, her⟩ : ∃ er, er = (insE lim l' x).1 := ⟨_, rfl⟩
      obtain ⟨l2, hl2⟩ : ∃ l2, l2 = (insE lim l' x).2 := ⟨_, rfl⟩
      have HL2 : Hid (l2.length ≤ l'.length + 1) := Lib.hid (by rw [hl2]; exact insE_len _ _ _)
      have HCase : Hid ((er = 4 ∧ l2 = l' ∧ eachF lim l' (x :: ks.drop (i + 1)) = eachF lim l' (ks.drop (i + 1))) ∨ (er = 0 ∧ eachF lim l' (x :: ks.drop (i + 1)) = ((eachF lim l2 (ks.drop (i + 1))).1, (eachF lim l2 (ks.drop (i + 1))).2 + 1)) ∨ (er = 5 ∧ l2 = l' ∧ eachF lim l' (x :: ks.drop (i + 1)) = (l', 0))) := Lib.hid (by
        unfold insE at her hl2
        by_cases h1 : x ∈ l'
        · rw [if_pos h1] at her hl2
          refine .inl ⟨her, hl2, ?_⟩
          rw [eachF, if_pos h1]
        · rw [if_neg h1] at her hl2
          by_cases h2 : used (insS l' x) ≤ lim
          · rw [if_pos h2] at her hl2
            subst hl2
            refine .inr (.inl ⟨her, ?_⟩)
            rw [eachF, if_neg h1, if_pos h2]
          · rw [if_neg h2] at her hl2
            refine .inr (.inr ⟨her, hl2, ?_⟩)
            rw [eachF, if_neg h1, if_neg h2])
      rw [← her, ← hl2] at HI
      clear her hl2 hdr hx hxm
      rcases HCase.out with ⟨rfl, rfl, hE⟩ | ⟨rfl, hE⟩ | ⟨rfl, rfl, hE⟩
      · have HE2 := Lib.hid (by have := HEE.out; rw [hE] at this; exact this)
        clear hE
        go_wp2_with (go_at_call 23; refine HI.out.mono ?_; rintro e w2 ⟨rfl, hX2, hF2⟩; have HX2 := Lib.hid hX2; have HF2 := Lib.hid (HF.out.trans hF2); clear hX2 hF2)
        go_roundw
        case rel => exact ⟨i + 1, n, l2, by omega, by omega, rfl, by go_num, HE2, Lib.hid (by have := HLL.out; omega), HX2, HF2⟩
        case measure => simp [intOf]; omega
      · have HE2 := Lib.hid (by have := HEE.out; rw [hE] at this; exact this)
        clear hE
        have hnb : (n : Int) + 1 ≤ 1000001 := by omega
        go_wp2_with (go_at_call 23; refine HI.out.mono ?_; rintro e w2 ⟨rfl, hX2, hF2⟩; have HX2 := Lib.hid hX2; have HF2 := Lib.hid (HF.out.trans hF2); clear hX2 hF2)
        go_roundw
        case rel => exact ⟨i + 1, n + 1, l2, by omega, by omega, by go_num, by go_num, Lib.hid (by rw [HE2.out]; simp only [Prod.mk.injEq, true_and]; omega), Lib.hid (by have h1 := HLL.out; have h2 := HL2.out; omega), HX2, HF2⟩
        case measure => simp [intOf]; omega
      · have HE2 := Lib.hid (by have := HEE.out; rw [hE] at this; exact this)
        clear hE
        go_wp2_with (go_at_call 23; refine HI.out.mono ?_; rintro e w2 ⟨rfl, hX2, hF2⟩; have HX2 := Lib.hid hX2; have HF2 := Lib.hid (HF.out.trans hF2); clear hX2 hF2)
        go_ret
        refine ⟨ret_int ?_, ?_, HF2.out⟩
        · rw [HE2.out]; simp
        · rw [HE2.out]; exact HX2.out
    · have HE2 : Hid (eachF lim l ks = (l', n)) := Lib.hid (by
        have := HE.out
        rw [List.drop_of_length_le (by omega)] at this
        rw [this]; simp [eachF])
      go_wp2
      go_ret
      refine ⟨ret_int ?_, ?_, HF.out⟩
      · rw [HE2.out]
      · rw [HE2.out]; exact HXr.out
theorem drawn_nw {w w' : World} (h : Drawn0 w w') : Nw w w' := by
  obtain ⟨n, rfl⟩ := h
  exact (Fr.refl _ _).drewN n
theorem samek_calls (A0 A1 : Option Addr) (c0 c1 : Nat) (a b : List Nat) (w : World) (hr0 : Kd.C (Kd.int .u64) w A0 a.length (keysI a)) (hc0 : a.length ≤ c0) (hr1 : Kd.C (Kd.int .u64) w A1 b.length (keysI b)) (hc1 : b.length ≤ c1) (ha : a.length ≤ 1000000) :
    Calls Tryd.prog 37 #[.slice A0 a.length c0, .slice A1 b.length c1] w fun e w' => e = .returned (.bool (decide (a = b))) ∧ Nw w w' := by
  have h := same_f (keysI a) (keysI b) (by rw [keysI_len]; omega)
  have hb := PTrieWalks.stepstoneref01_SameKeys.calls ((keysI a).length + 1) A0 c0 (keysI a) A1 c1 (keysI b) _ w (by rw [keysI_len]; exact hr0) (by rw [keysI_len]; exact hc0) (by rw [keysI_len]; exact hr1) (by rw [keysI_len]; exact hc1) h
  rw [keysI_len, keysI_len] at hb
  refine hb.mono ?_
  rintro e w' ⟨rfl, hf⟩
  refine ⟨ret_bool (decide_eq_decide.2 ⟨fun h => keysI_inj h, fun h => by rw [h]⟩), drawn_nw hf⟩
theorem R_c {W : World} {A : Option Addr} {c : Nat} {ks : List Nat} (h : Kd.R (Kd.int .u64) 31 W 0 (fun _ => True) (.slice A ks.length c) (keysI ks)) : Kd.C (Kd.int .u64) W A ks.length (keysI ks) ∧ ks.length ≤ c := by
  obtain ⟨A1, c1, e, h1, h2⟩ := Kd.R_reads h
  simp only [Value.slice.injEq] at e
  obtain ⟨rfl, _, rfl⟩ := e
  rw [keysI_len] at h1 h2
  exact ⟨h2, h1⟩
set_option maxRecDepth 100000 in
set_option maxHeartbeats 1000000 in
theorem same_calls (B t lim : Nat) (l ks : List Nat) (v : Value) (w : World) (h : TX w B t l lim) (hT : Tb w) (hR : Kd.R (Kd.int .u64) 31 w 0 (fun _ => True) v (keysI ks)) (hlen : ks.length ≤ 1000000) :
    Calls Tryd.prog 16 #[.pointer (some ⟨t, 0, none⟩), v] w fun e w' => e = .returned (.bool (decide (l.take 100000 = ks ∧ l.length = ks.length))) ∧ TX w' B t l lim ∧ FT B w w' := by
  have HA := Lib.hid (tx_all B t lim l w h hT 100000 (by omega) (by omega))
  obtain ⟨A, c, rfl⟩ := R_form hR
  rw [keysI_len] at hR ⊢
  have HR := Lib.hid hR
  have hln := h.len
  obtain ⟨tl, htl⟩ : ∃ tl, tl = l.take 100000 := ⟨_, rfl⟩
  have HTL : Hid (tl.length ≤ 1000000) := Lib.hid (by rw [htl, List.length_take]; omega)
  obtain ⟨R, hRe⟩ : ∃ R, R = decide (l.take 100000 = ks ∧ l.length = ks.length) := ⟨_, rfl⟩
  have HRE : Hid (R = decide (tl = ks ∧ l.length = ks.length)) := Lib.hid (by rw [htl]; exact hRe)
  rw [← htl] at HA
  rw [← hRe]
  clear h hT hR htl hRe
  obtain ⟨b, hb⟩ : ∃ b, b = decide (tl = ks) := ⟨_, rfl⟩
  have HB := Lib.hid hb
  clear hb
  cases b with
  | true =>
    have HR2 : Hid (R = decide (l.length = ks.length)) := Lib.hid (by rw [HRE.out]; exact decide_eq_decide.2 ⟨fun h => h.2, fun h => ⟨of_decide_eq_true HB.out.symm, h⟩⟩)
    go_enter Tryd.func16, Tryd.ntmps16
    go_wp2_with (first
      | (go_at_call 32; refine HA.out.mono ?_; rintro e w1 ⟨A1, c1, rfl, hC, hc1, hX1, hF1⟩; have HC := Lib.hid hC; have HX1 := Lib.hid hX1; have HF1 := Lib.hid hF1; have HR1 := Lib.hid (R_ft HR.out hF1); clear hC hX1 hF1)
      | (go_at_call 37; refine (samek_calls A1 A c1 c tl ks _ HC.out hc1 (R_c HR1.out).1 (R_c HR1.out).2 HTL.out).mono ?_; rintro e w2 ⟨rfl, hf2⟩; rw [← HB.out]; have HX2 := Lib.hid (HX1.out.nw hf2); have HF2 := Lib.hid (HF1.out.trans (FT.nw hf2)); clear hf2)
      | (go_at_call 30; refine (tx_len B t lim l _ HX2.out).mono ?_; rintro e w2 ⟨rfl, rfl⟩))
    go_ret
    refine ⟨?_, HX2.out, HF2.out⟩
    rw [HR2.out]
    show Ending.returned (.bool ((l.length : Int) == (ks.length : Int))) = _
    congr 2
    rw [Bool.eq_iff_iff]
    simp only [beq_iff_eq, decide_eq_true_eq]
    omega
  | false =>
    have HR2 : Hid (R = false) := Lib.hid (by rw [HRE.out]; exact decide_eq_false (fun h => of_decide_eq_false HB.out.symm h.1))
    go_enter Tryd.func16, Tryd.ntmps16
    go_wp2_with (first
      | (go_at_call 32; refine HA.out.mono ?_; rintro e w1 ⟨A1, c1, rfl, hC, hc1, hX1, hF1⟩; have HC := Lib.hid hC; have HX1 := Lib.hid hX1; have HF1 := Lib.hid hF1; have HR1 := Lib.hid (R_ft HR.out hF1); clear hC hX1 hF1)
      | (go_at_call 37; refine (samek_calls A1 A c1 c tl ks _ HC.out hc1 (R_c HR1.out).1 (R_c HR1.out).2 HTL.out).mono ?_; rintro e w2 ⟨rfl, hf2⟩; rw [← HB.out]; have HX2 := Lib.hid (HX1.out.nw hf2); have HF2 := Lib.hid (HF1.out.trans (FT.nw hf2)); clear hf2))
    go_ret
    exact ⟨ret_bool (by rw [HR2.out]), HX2.out, HF2.out⟩
set_option maxRecDepth 100000 in
set_option maxHeartbeats 1000000 in
theorem tawake_calls (w : World) (hT : Tb w) : Calls Tryd.prog 9 #[] w fun e w' => e = .returned (.bool true) ∧ Nw w w' := by
  have hg : 0 < w.heap.size := World.block_lt_of_cell? w _ (hT 0 (by decide))
  have HT := Lib.hid hT
  have i1 : insE 4000 [] 5 = (0, [5]) := by decide
  have i2 : insE 4000 [5] 9 = (0, [5, 9]) := by decide
  have i3 : insE 4000 [5, 9] 9 = (4, [5, 9]) := by decide
  have n1 : nxtV [5, 9] 6 = .tuple #[.int .u64 9, .bool true] := rfl
  have n2 : prvV [5, 9] 8 = .tuple #[.int .u64 5, .bool true] := rfl
  have K1 := Lib.hid (fun B t w (h : TX w B t [] 4000) (hB : B ≤ w.heap.size) => show Calls Tryd.prog 23 #[.pointer (some ⟨t, 0, none⟩), .int .u64 5] w (fun e w' => e = .returned (.int .i64 0) ∧ TX w' B t [5] 4000 ∧ FT B w w') from by have := tx_insert B t 4000 [] w h hB 5 (by omega) (by simp); rw [i1] at this; exact this)
  have K2 := Lib.hid (fun B t w (h : TX w B t [5] 4000) (hB : B ≤ w.heap.size) => show Calls Tryd.prog 23 #[.pointer (some ⟨t, 0, none⟩), .int .u64 9] w (fun e w' => e = .returned (.int .i64 0) ∧ TX w' B t [5, 9] 4000 ∧ FT B w w') from by have := tx_insert B t 4000 [5] w h hB 9 (by omega) (by simp); rw [i2] at this; exact this)
  have K3 := Lib.hid (fun B t w (h : TX w B t [5, 9] 4000) (hB : B ≤ w.heap.size) => show Calls Tryd.prog 23 #[.pointer (some ⟨t, 0, none⟩), .int .u64 9] w (fun e w' => e = .returned (.int .i64 4) ∧ TX w' B t [5, 9] 4000 ∧ FT B w w') from by have := tx_insert B t 4000 [5, 9] w h hB 9 (by omega) (by simp); rw [i3] at this; exact this)
  have K4 := Lib.hid (fun B t w (h : TX w B t [5, 9] 4000) (hT : Tb w) => show Calls Tryd.prog 14 #[.pointer (some ⟨t, 0, none⟩), .int .u64 6] w (fun e w' => e = .returned (.tuple #[.int .u64 9, .bool true]) ∧ TX w' B t [5, 9] 4000 ∧ FT B w w') from by have := tx_next B t 4000 [5, 9] w h hT 6 (by omega); rw [n1] at this; exact this)
  have K5 := Lib.hid (fun B t w (h : TX w B t [5, 9] 4000) => show Calls Tryd.prog 15 #[.pointer (some ⟨t, 0, none⟩), .int .u64 8] w (fun e w' => e = .returned (.tuple #[.int .u64 5, .bool true]) ∧ TX w' B t [5, 9] 4000 ∧ FT B w w') from by have := tx_prev B t 4000 [5, 9] w h 8 (by omega); rw [n2] at this; exact this)
  clear hT i1 i2 i3 n1 n2
  go_enter Tryd.func9, Tryd.ntmps9
  go_wp2_with (first
    | (go_at_call 10; refine (tx_new 4000 _ (by omega)).mono ?_; rintro e w1 ⟨t, rfl, hX, hf⟩; have HX := Lib.hid hX; have HF : Hid (FT w.heap.size w w1) := Lib.hid (FT.nw hf); have hsz := hf.size; clear hX hf)
    | (go_at_call 23; (with_reducible refine Calls.mono (K1.out w.heap.size t _ HX.out hsz) ?_); rintro e w2 ⟨rfl, hX, hf⟩; have hsz := Nat.le_trans hsz (Fr.size hf); have HX := Lib.hid hX; have HF := Lib.hid (HF.out.trans hf); clear hX hf)
    | (go_at_call 23; (with_reducible refine Calls.mono (K2.out w.heap.size t _ HX.out hsz) ?_); rintro e w3 ⟨rfl, hX, hf⟩; have hsz := Nat.le_trans hsz (Fr.size hf); have HX := Lib.hid hX; have HF := Lib.hid (HF.out.trans hf); clear hX hf)
    | (go_at_call 23; (with_reducible refine Calls.mono (K3.out w.heap.size t _ HX.out hsz) ?_); rintro e w4 ⟨rfl, hX, hf⟩; have hsz := Nat.le_trans hsz (Fr.size hf); have HX := Lib.hid hX; have HF := Lib.hid (HF.out.trans hf); clear hX hf)
    | (go_at_call 14; refine (K4.out w.heap.size t _ HX.out (HT.out.ft HF.out hg)).mono ?_; rintro e w5 ⟨rfl, hX, hf⟩; have HX := Lib.hid hX; have HF := Lib.hid (HF.out.trans hf); clear hX hf)
    | (go_at_call 15; refine (K5.out w.heap.size t _ HX.out).mono ?_; rintro e w6 ⟨rfl, hX, hf⟩; have HX := Lib.hid hX; have HF := Lib.hid (HF.out.trans hf); clear hX hf)
    | (go_at_call 30; refine (tx_len w.heap.size t 4000 [5, 9] _ HX.out).mono ?_; rintro e w7 ⟨rfl, rfl⟩))
  go_ret
  exact ⟨rfl, HF.out.mono (fun q hq e => by have := e.1; omega)⟩
end Go.Proofs.YtnhdcefoigmjpaaDoor

/-
  The walk of the law TrieWalks.
-/

namespace Go.Proofs.YtnhdcefoigmjpaaDoor
open Go.RowKit Go.Proofs.YtnhdcefoigmjpaaDoorW.PrintWords Go.Proofs.YtnhdcefoigmjpaaDoorW.PrintMore
attribute [local go_sem] max2_int min2_int max_two min_two
set_option linter.unusedVariables false
set_option linter.unusedSimpArgs false

theorem C_nw {k : IntKind} {W W1 : World} {A : Option Addr} {n : Nat} {xs : List Int} (h : Kd.C (Kd.int k) W A n xs) (hf : Nw W W1) : Kd.C (Kd.int k) W1 A n xs := Kd.C_below h (hf.below (fun _ _ h => h))
theorem R_key2 {W : World} {g n c : Nat} {ks : List Nat} (h : Kd.R (Kd.int .u64) 31 W 0 (fun _ => True) (.slice (some ⟨g, 0, none⟩) n c) (keysI ks)) {i x : Nat} (hx : ks[i]? = some x) : W.cell? ⟨g, i, none⟩ = some (.int .u64 (x : Nat)) := by
  obtain ⟨g', e, hc⟩ := R_key h hx
  cases e; exact hc
theorem ins_snoc {l : List Nat} {k : Nat} (h : Up l) (hk : ∀ x, x ∈ l → x < k) : insS l k = l ++ [k] := by
  have hm : k ∉ l := fun hm => absurd (hk k hm) (Nat.lt_irrefl _)
  rw [ins_cut h hm, nxt_get_none h hk, List.take_length, List.drop_length]
theorem used_le : ∀ (n : Nat) (l : List Nat), l.length = n → Up l → used l ≤ 11 * n := by
  intro n
  induction n with
  | zero => intro l h _; rw [List.length_eq_zero_iff.1 h, used_nil]; omega
  | succ n ih =>
    intro l h hl
    have hne : l ≠ [] := fun e => by rw [e] at h; cases h
    have e := List.dropLast_concat_getLast hne
    have hd : Up l.dropLast := by rw [← e] at hl; exact (List.pairwise_append.1 hl).1
    have hlt : ∀ x, x ∈ l.dropLast → x < l.getLast hne := fun x hx => by
      have h2 := hl
      rw [← e] at h2
      exact (List.pairwise_append.1 h2).2.2 x hx _ (List.mem_singleton.2 rfl)
    obtain ⟨d, hd0⟩ := depth_exists l.dropLast (l.getLast hne)
    have hu := used_ins hd (fun hm => absurd (hlt _ hm) (Nat.lt_irrefl _)) hd0.1 hd0.2
    rw [ins_snoc hd hlt, e] at hu
    have := ih l.dropLast (by rw [List.length_dropLast]; omega) hd
    omega
theorem each_all (lim : Nat) : ∀ (ks pre : List Nat), Up (pre ++ ks) → 11 * (pre ++ ks).length ≤ lim → eachF lim pre ks = (pre ++ ks, ks.length) := by
  intro ks
  induction ks with
  | nil => intro pre h _; simp [eachF]
  | cons k ks ih =>
    intro pre h hl
    have hp := List.pairwise_append.1 h
    have hlt : ∀ x, x ∈ pre → x < k := fun x hx => hp.2.2 x hx k List.mem_cons_self
    have hm : k ∉ pre := fun hm => absurd (hlt k hm) (Nat.lt_irrefl _)
    have hi := ins_snoc hp.1 hlt
    have h2 : Up ((pre ++ [k]) ++ ks) := by simpa using h
    have hu := used_le (pre ++ [k]).length (pre ++ [k]) rfl (List.pairwise_append.1 h2).1
    have e := ih (pre ++ [k]) h2 (by simpa using hl)
    rw [eachF, if_neg hm, hi, if_pos (by simp only [List.length_append, List.length_cons, List.length_nil] at hu hl ⊢; omega), e]
    simp
theorem prv_rest {pre r : List Nat} {y : Nat} (h : Up (pre ++ y :: r)) (hy : 0 < y) : prvV (pre ++ y :: r) (y - 1) = .tuple #[.int .u64 ((pre.getLastD 0 : Nat) : Int), .bool (decide (pre ≠ []))] := by
  have hp := List.pairwise_append.1 h
  have hr : ∀ x, x ∈ y :: r → y ≤ x := fun x hx => by
    rcases List.mem_cons.1 hx with rfl | hx
    · exact Nat.le_refl _
    · exact Nat.le_of_lt ((List.pairwise_cons.1 hp.2.1).1 x hx)
  by_cases e : pre = []
  · subst e
    rw [prvV_none (fun x hx => by have := hr x (by simpa using hx); omega)]; rfl
  · have hm := last_mem e 0
    have hlt := hp.2.2 _ hm y List.mem_cons_self
    rw [prvV_some h (m := pre.getLastD 0) ⟨List.mem_append.2 (.inl hm), by omega, fun x hx hxy => ?_⟩, decide_eq_true e]
    rcases List.mem_append.1 hx with hx | hx
    · exact last_ge hp.1 0 hx
    · have := hr x hx; omega
theorem nxt_restV {pre r : List Nat} {y : Nat} (h : Up (pre ++ y :: r)) : nxtV (pre ++ y :: r) (y + 1) = .tuple #[.int .u64 ((r.headD 0 : Nat) : Int), .bool (decide (r ≠ []))] := by
  unfold nxtV
  rw [nxt_rest h]
  cases r <;> simp
theorem keys_nat (l0 : List Int) (h : ∀ a, a ∈ l0 → 0 ≤ a ∧ a ≤ 18446744073709551615) : keysI (l0.map Int.toNat) = l0 ∧ ∀ k, k ∈ l0.map Int.toNat → k < 18446744073709551616 := by
  constructor
  · unfold keysI
    rw [List.map_map]
    conv => rhs; rw [← List.map_id l0]
    exact List.map_congr_left (fun a ha => by have := h a ha; simp; omega)
  · intro k hk
    obtain ⟨a, ha, rfl⟩ := List.mem_map.1 hk
    have := h a ha
    omega
theorem keysI_take (l : List Nat) (n : Nat) : (keysI l).take n = keysI (l.take n) := by simp [keysI, List.map_take]
theorem twords_calls (A0 : Option Addr) (c0 : Nat) (l0 : List Int) (most : Nat) (w : World) (hr : Kd.C (Kd.int .u64) w A0 l0.length l0) (hc0 : l0.length ≤ c0) (hb : ∀ a, a ∈ l0 → 0 ≤ a ∧ a ≤ 18446744073709551615) (hn : l0.length ≤ 140737488351232) (hm : most ≤ 100000) :
    Calls Tryd.prog 12 #[.slice A0 l0.length c0, .int .i64 most] w fun e w' => ∃ A c, e = .returned (.slice A ((l0.map Int.toNat).take most).length c) ∧ Kd.R (Kd.int .u64) 31 w' 0 (fun _ => True) (.slice A ((l0.map Int.toNat).take most).length c) (keysI ((l0.map Int.toNat).take most)) ∧ Nw w w' := by
  have h := words_f l0 hn most hm
  have e : l0.take most = keysI ((l0.map Int.toNat).take most) := by rw [← keysI_take, (keys_nat l0 hb).1]
  rw [e] at h
  refine (PTrieWalks.stepstoneref01_Words.calls (l0.length + 1) A0 c0 l0 (most : Nat) _ w hr hc0 h).mono ?_
  rintro e2 w' ⟨v, rfl, hR, hB⟩
  obtain ⟨A, c, rfl⟩ := R_form hR
  rw [keysI_len] at hR ⊢
  exact ⟨A, c, rfl, R_base0 hR, Fr.of_below hB⟩
theorem of_calls (A0 : Option Addr) (c0 : Nat) (l : List Nat) (w : World) (hr : Kd.R (Kd.int .u64) 31 w 0 (fun _ => True) (.slice A0 l.length c0) (keysI l)) (hl : l.length ≤ 100000) :
    Calls Tryd.prog 11 #[.slice A0 l.length c0] w fun e w' => ∃ A c, e = .returned (.slice A (ofN l).length c) ∧ Kd.R (Kd.int .u64) 31 w' 0 (fun _ => True) (.slice A (ofN l).length c) (keysI (ofN l)) ∧ Nw w w' := by
  have h := of_f l hl
  obtain ⟨hC, hc⟩ := R_c hr
  have hb := PTrieWalks.stepstoneref11_Of.calls (l.length + l.length + 2) A0 c0 (keysI l) _ w (by rw [keysI_len]; exact hC) (by rw [keysI_len]; exact hc) h
  rw [keysI_len] at hb
  refine hb.mono ?_
  rintro e2 w' ⟨v, rfl, hR, hB⟩
  obtain ⟨A, c, rfl⟩ := R_form hR
  rw [keysI_len] at hR ⊢
  exact ⟨A, c, rfl, R_base0 hR, Fr.of_below hB⟩
set_option maxRecDepth 100000 in
set_option maxHeartbeats 4000000 in
theorem walks_calls (A0 : Option Addr) (c0 : Nat) (l0 : List Int) (w : World) (hr : Kd.C (Kd.int .u64) w A0 l0.length l0) (hc0 : l0.length ≤ c0) (hb : ∀ a, a ∈ l0 → 0 ≤ a ∧ a ≤ 18446744073709551615) (hn : l0.length ≤ 140737488351232) (hT : Tb w) :
    Calls Tryd.prog 3 #[.slice A0 l0.length c0] w fun e w' => e = .returned (.bool true) ∧ Nw w w' := by
  have hg : 0 < w.heap.size := World.block_lt_of_cell? w _ (hT 0 (by decide))
  obtain ⟨ks, hks⟩ : ∃ ks, ks = (l0.map Int.toNat).take 60 := ⟨_, rfl⟩
  have hkl : ks.length ≤ 60 := by rw [hks, List.length_take]; omega
  have hkb : ∀ k, k ∈ ks → k < 18446744073709551616 := fun k hk => (keys_nat l0 hb).2 k (by rw [hks] at hk; exact List.mem_of_mem_take hk)
  obtain ⟨L, hL⟩ : ∃ L, L = ofN ks := ⟨_, rfl⟩
  have hLu : Up L := by rw [hL]; exact ofN_up ks [] List.Pairwise.nil
  have hLl : L.length ≤ 60 := by rw [hL]; have := ofN_len ks []; simp only [List.length_nil] at this; exact Nat.le_trans this (by omega)
  have hLb : ∀ k, k ∈ L → k < 18446744073709551616 := fun k hk => by
    rw [hL] at hk
    rcases (mem_ofN ks k []).1 hk with h | h
    · exact hkb k h
    · cases h
  have hea : eachF 100000 [] L = (L, L.length) := by have := each_all 100000 L [] (by simpa using hLu) (by simp; omega); simpa using this
  have HW := Lib.hid (fun w' (hf : Nw w w') => by have := twords_calls A0 c0 l0 60 w' (C_nw hr hf) hc0 hb hn (by omega); rw [← hks] at this; exact this)
  have HO := Lib.hid (fun A c w' h => by have := of_calls A c ks w' h (by omega); rw [← hL] at this; exact this)
  have HE := Lib.hid (fun B t v w' (h : TX w' B t [] 100000) (hR : Kd.R (Kd.int .u64) 31 w' 0 (fun _ => True) v (keysI L)) (hB : B ≤ w'.heap.size) => by have := each_calls B t 100000 [] L v w' h hR hB hLb (by simp; omega); rw [hea] at this; exact this)
  have HSM := Lib.hid (fun B t v w' (h : TX w' B t L 100000) (hT : Tb w') (hR : Kd.R (Kd.int .u64) 31 w' 0 (fun _ => True) v (keysI L)) => show Calls Tryd.prog 16 #[.pointer (some ⟨t, 0, none⟩), v] w' (fun e w'' => e = .returned (.bool true) ∧ TX w'' B t L 100000 ∧ FT B w' w'') from by
    have := same_calls B t 100000 L L v w' h hT hR (by omega)
    rw [decide_eq_true (show L.take 100000 = L ∧ L.length = L.length from ⟨List.take_of_length_le (by omega), rfl⟩)] at this
    exact this)
  have HT := Lib.hid hT
  have HLu := Lib.hid hLu
  have HLb := Lib.hid hLb
  have HAW := Lib.hid (tawake_calls w hT)
  clear hks hkb hL hLu hLb hea hr hb hT
  go_enter Tryd.func3, Tryd.ntmps3
  go_wp2_with (first
    | (go_at_call 9; refine HAW.out.mono ?_; rintro e w1 ⟨rfl, hf⟩; have HN1 := Lib.hid hf; clear hf)
    | (go_at_call 10; refine (tx_new 100000 _ (by omega)).mono ?_; rintro e w2 ⟨t, rfl, hX, hf⟩; have HX := Lib.hid hX; have HN2 := Lib.hid (HN1.out.trans hf); have hsz := hf.size; have hsB := HN1.out.size; clear hX hf)
    | (go_at_call 12; refine (HW.out _ HN2.out).mono ?_; rintro e w3 ⟨A3, c3, rfl, hR, hf⟩; have HR3 := Lib.hid hR; have HX := Lib.hid (HX.out.nw hf); have HN3 := Lib.hid (HN2.out.trans hf); have hsz := Nat.le_trans hsz hf.size; clear hR hf)
    | (go_at_call 11; refine (HO.out A3 c3 _ HR3.out).mono ?_; rintro e w4 ⟨A4, c4, rfl, hR, hf⟩; have HR4 := Lib.hid hR; have HX := Lib.hid (HX.out.nw hf); have HN4 := Lib.hid (HN3.out.trans hf); have hsz := Nat.le_trans hsz hf.size; clear hR hf)
    | (go_at_call 13; refine (HE.out w1.heap.size t _ _ HX.out HR4.out hsz).mono ?_; rintro e w5 ⟨rfl, hX, hf⟩; have HX := Lib.hid hX; have HF5 := Lib.hid hf; have HR5 := Lib.hid (R_ft HR4.out hf); have HN5 : Hid (Nw w w5) := Lib.hid (HN4.out.trans_of hf (fun q hq e => by have := e.1; omega)); clear hX hf))
  have hg1 : 0 < w1.heap.size := Nat.lt_of_lt_of_le hg hsB
  go_loopw [6, 7, 8, 9, 10, 11, 26] (fun _ _ _ _ _ _ iv wr => ∃ i : Nat, i ≤ L.length ∧ iv = .int .i64 i ∧ Hid (TX wr w1.heap.size t L 100000) ∧ Hid (FT w1.heap.size w5 wr)) (fun _ _ _ _ _ _ iv _ => L.length - (intOf iv).toNat)
  case atStart => exact ⟨0, Nat.zero_le _, rfl, HX, Lib.hid (FT.refl _ _)⟩
  case round =>
    obtain ⟨i, hi, rfl, HXr, HF⟩ := hrel
    by_cases hlt : i < L.length
    · obtain ⟨k, hk⟩ : ∃ k, L[i]? = some k := ⟨_, List.getElem?_eq_getElem hlt⟩
      have hdr : L.drop i = k :: L.drop (i + 1) := by
        rw [List.drop_eq_getElem_cons hlt]
        rw [List.getElem?_eq_getElem hlt] at hk
        simp only [Option.some.injEq] at hk
        rw [hk]
      have hsp : L = L.take i ++ k :: L.drop (i + 1) := by rw [← hdr, List.take_append_drop]
      have hup := HLu.out
      rw [hsp] at hup
      have hnx := nxt_restV hup
      have hpv := prv_rest (y := k) hup
      rw [← hsp] at hnx hpv
      have hkb := HLb.out k (List.mem_of_getElem? hk)
      have HRr := Lib.hid (R_ft HR5.out HF.out)
      obtain ⟨g, hA, hcx⟩ := R_key HRr.out hk
      subst hA
      have HTr := Lib.hid (((HT.out.step HN5.out).ft HF.out hg1))
      obtain ⟨v1, hv1⟩ : ∃ v1, v1 = (L.drop (i + 1)).headD 0 := ⟨_, rfl⟩
      obtain ⟨v2, hv2⟩ : ∃ v2, v2 = (L.take i).getLastD 0 := ⟨_, rfl⟩
      have hb1 : decide (L.drop (i + 1) ≠ []) = decide (i + 1 < L.length) := decide_eq_decide.2 (by rw [ne_eq, List.drop_eq_nil_iff]; omega)
      have hb2 : decide (L.take i ≠ []) = decide (0 < i) := decide_eq_decide.2 (by rw [ne_eq, List.take_eq_nil_iff]; constructor <;> (intro h; first | omega | (rintro (h | h) <;> (first | omega | (rw [h] at hlt; simp at hlt)))))
      rw [← hv1, hb1] at hnx
      rw [← hv2, hb2] at hpv
      have hkk : ((k - 1 : Nat) : Int) = (k : Int) - 1 ∨ k = 0 := by omega
      have HNX := Lib.hid (fun (hm : k + 1 < 18446744073709551616) w' (h : TX w' w1.heap.size t L 100000) (hT : Tb w') => show Calls Tryd.prog 14 #[.pointer (some ⟨t, 0, none⟩), .int .u64 ((k : Int) + 1)] w' (fun e w'' => e = .returned (.tuple #[.int .u64 (v1 : Nat), .bool (decide (i + 1 < L.length))]) ∧ TX w'' w1.heap.size t L 100000 ∧ FT w1.heap.size w' w'') from by have := tx_next w1.heap.size t 100000 L w' h hT (k + 1) hm; rw [hnx] at this; exact this)
      have HPV := Lib.hid (fun (hm : 0 < k) w' (h : TX w' w1.heap.size t L 100000) => show Calls Tryd.prog 15 #[.pointer (some ⟨t, 0, none⟩), .int .u64 ((k : Int) - 1)] w' (fun e w'' => e = .returned (.tuple #[.int .u64 (v2 : Nat), .bool (decide (0 < i))]) ∧ TX w'' w1.heap.size t L 100000 ∧ FT w1.heap.size w' w'') from by have := tx_prev w1.heap.size t 100000 L w' h (k - 1) (by omega); rw [hpv hm, show ((k - 1 : Nat) : Int) = (k : Int) - 1 by omega] at this; exact this)
      by_cases hr1 : i + 1 < L.length
      · have hx1 : L[i + 1]? = some v1 := by
          rw [hv1, List.headD_eq_head?_getD, List.head?_drop, List.getElem?_eq_getElem hr1]; rfl
        have hmem : v1 ∈ L.drop (i + 1) := List.mem_of_getElem? (i := 0) (by rw [List.getElem?_drop]; exact hx1)
        have hkv : k < v1 := (List.pairwise_cons.1 (List.pairwise_append.1 hup).2.1).1 v1 hmem
        have hvb := HLb.out v1 (List.mem_of_getElem? hx1)
        have HM1 : Hid (k + 1 < 18446744073709551616) := Lib.hid (by omega)
        have hmb1 : decide ((k : Int) < 18446744073709551615) = true := decide_eq_true (by omega)
        have hmb2 : decide (k < 18446744073709551615) = true := decide_eq_true (by omega)
        have hw1 : IntKind.u64.wrap ((k : Int) + 1) = (k : Int) + 1 := IntWalk.u64_in _ (by omega)
        have HWM : Hid (0 < k → IntKind.u64.wrap ((k : Int) - 1) = (k : Int) - 1) := Lib.hid (fun h => IntWalk.u64_in _ (by omega))
        clear hvb hkb hkk
        rw [decide_eq_true hr1] at HNX
        have hr1' : (i : Int) + 1 < (L.length : Int) := by omega
        clear hmem
        have HX1 := Lib.hid hx1
        have HKV := Lib.hid hkv
        by_cases hi0 : 0 < i
        · obtain ⟨j, hj⟩ : ∃ j, i = j + 1 := ⟨i - 1, by omega⟩
          have hx2 : L[j]? = some v2 := by
            rw [hv2, hj, List.getLastD_eq_getLast?, List.getLast?_eq_getElem?, List.length_take, Nat.min_eq_left (by omega), Nat.add_sub_cancel, List.getElem?_take, if_pos (by omega), List.getElem?_eq_getElem (by omega)]; rfl
          have hm2 : v2 ∈ L.take i := List.mem_of_getElem? (i := j) (by rw [List.getElem?_take, if_pos (by omega)]; exact hx2)
          have hlt2 : v2 < k := (List.pairwise_append.1 hup).2.2 v2 hm2 k List.mem_cons_self
          have hk0 : 0 < k := by omega
          have hk0' : (0 : Int) < (k : Int) := by omega
          have hw2 := HWM.out hk0
          have hij : (i : Int) - 1 = (j : Int) := by omega
          have hi0' : (0 : Int) < (i : Int) := by omega
          have hjl : j < L.length := by omega
          rw [decide_eq_true hi0] at HPV
          have HX2 := Lib.hid hx2
          have HK0 := Lib.hid hk0
          clear hm2 hj hx2 hlt2 hk0 hx1 hkv hk
          · clear hnx hpv hup hdr hsp hv1 hv2 hb1 hb2
            go_upto_if 58 with (first
              | (go_at_call 14; refine (HNX.out HM1.out _ HXr.out HTr.out).mono ?_; rintro e w6 ⟨rfl, hX, hf⟩; have HXr := Lib.hid hX; have HF := Lib.hid (HF.out.trans hf); have HRr := Lib.hid (R_ft HRr.out hf); have hcn := R_key2 HRr.out HX1.out; clear hX hf)
              | (go_at_call 15; refine (HPV.out HK0.out _ HXr.out).mono ?_; rintro e w7 ⟨rfl, hX, hf⟩; have HXr := Lib.hid hX; have HF := Lib.hid (HF.out.trans hf); have HRr := Lib.hid (R_ft HRr.out hf); have hcp := R_key2 HRr.out HX2.out; clear hX hf))
            clear hmb1 hmb2 hw1
            go_wp2_with (first
              | (go_at_call 14; refine (HNX.out HM1.out _ HXr.out HTr.out).mono ?_; rintro e w6 ⟨rfl, hX, hf⟩; have HXr := Lib.hid hX; have HF := Lib.hid (HF.out.trans hf); have HRr := Lib.hid (R_ft HRr.out hf); have hcn := R_key2 HRr.out HX1.out; clear hX hf)
              | (go_at_call 15; refine (HPV.out HK0.out _ HXr.out).mono ?_; rintro e w7 ⟨rfl, hX, hf⟩; have HXr := Lib.hid hX; have HF := Lib.hid (HF.out.trans hf); have HRr := Lib.hid (R_ft HRr.out hf); have hcp := R_key2 HRr.out HX2.out; clear hX hf))
            go_roundw
            case rel => exact ⟨i + 1, by omega, by go_num, HXr, HF⟩
            case measure => simp [intOf]; omega
        · have hi0' : ¬ (0 : Int) < (i : Int) := by omega
          rw [decide_eq_false hi0] at HPV
          by_cases hk0 : 0 < k
          · have hk0' : (0 : Int) < (k : Int) := by omega
            have hw2 := HWM.out hk0
            have HK0 := Lib.hid hk0
            clear hk0 hx1 hkv hk hi0
            clear hnx hpv hup hdr hsp hv1 hv2 hb1 hb2
            go_upto_if 58 with (first
              | (go_at_call 14; refine (HNX.out HM1.out _ HXr.out HTr.out).mono ?_; rintro e w6 ⟨rfl, hX, hf⟩; have HXr := Lib.hid hX; have HF := Lib.hid (HF.out.trans hf); have HRr := Lib.hid (R_ft HRr.out hf); have hcn := R_key2 HRr.out HX1.out; clear hX hf)
              | (go_at_call 15; refine (HPV.out HK0.out _ HXr.out).mono ?_; rintro e w7 ⟨rfl, hX, hf⟩; have HXr := Lib.hid hX; have HF := Lib.hid (HF.out.trans hf); have HRr := Lib.hid (R_ft HRr.out hf); skip; clear hX hf))
            clear hmb1 hmb2 hw1
            go_wp2_with (first
              | (go_at_call 14; refine (HNX.out HM1.out _ HXr.out HTr.out).mono ?_; rintro e w6 ⟨rfl, hX, hf⟩; have HXr := Lib.hid hX; have HF := Lib.hid (HF.out.trans hf); have HRr := Lib.hid (R_ft HRr.out hf); have hcn := R_key2 HRr.out HX1.out; clear hX hf)
              | (go_at_call 15; refine (HPV.out HK0.out _ HXr.out).mono ?_; rintro e w7 ⟨rfl, hX, hf⟩; have HXr := Lib.hid hX; have HF := Lib.hid (HF.out.trans hf); have HRr := Lib.hid (R_ft HRr.out hf); skip; clear hX hf))
            go_roundw
            case rel => exact ⟨i + 1, by omega, by go_num, HXr, HF⟩
            case measure => simp [intOf]; omega
          · have hk0' : ¬ (0 : Int) < (k : Int) := by omega
            have HK0 : Hid (¬ 0 < k) := Lib.hid hk0
            clear hk0 hx1 hkv hk hi0
            clear hnx hpv hup hdr hsp hv1 hv2 hb1 hb2
            go_upto_if 58 with (first
              | (go_at_call 14; refine (HNX.out HM1.out _ HXr.out HTr.out).mono ?_; rintro e w6 ⟨rfl, hX, hf⟩; have HXr := Lib.hid hX; have HF := Lib.hid (HF.out.trans hf); have HRr := Lib.hid (R_ft HRr.out hf); have hcn := R_key2 HRr.out HX1.out; clear hX hf)
              | (go_at_call 15; refine (HPV.out HK0.out _ HXr.out).mono ?_; rintro e w7 ⟨rfl, hX, hf⟩; have HXr := Lib.hid hX; have HF := Lib.hid (HF.out.trans hf); have HRr := Lib.hid (R_ft HRr.out hf); exact absurd trivial HK0.out; clear hX hf))
            clear hmb1 hmb2 hw1
            go_wp2_with (first
              | (go_at_call 14; refine (HNX.out HM1.out _ HXr.out HTr.out).mono ?_; rintro e w6 ⟨rfl, hX, hf⟩; have HXr := Lib.hid hX; have HF := Lib.hid (HF.out.trans hf); have HRr := Lib.hid (R_ft HRr.out hf); have hcn := R_key2 HRr.out HX1.out; clear hX hf)
              | (go_at_call 15; refine (HPV.out HK0.out _ HXr.out).mono ?_; rintro e w7 ⟨rfl, hX, hf⟩; have HXr := Lib.hid hX; have HF := Lib.hid (HF.out.trans hf); have HRr := Lib.hid (R_ft HRr.out hf); exact absurd trivial HK0.out; clear hX hf))
            go_roundw
            case rel => exact ⟨i + 1, by omega, by go_num, HXr, HF⟩
            case measure => simp [intOf]; omega
      · rw [decide_eq_false hr1] at HNX
        have hr1' : ¬ (i : Int) + 1 < (L.length : Int) := by omega
        have HWM : Hid (0 < k → IntKind.u64.wrap ((k : Int) - 1) = (k : Int) - 1) := Lib.hid (fun h => IntWalk.u64_in _ (by omega))
        by_cases hmx : k < 18446744073709551615
        · have HM1 : Hid (k + 1 < 18446744073709551616) := Lib.hid (by omega)
          have hmb1 : decide ((k : Int) < 18446744073709551615) = true := decide_eq_true (by omega)
          have hmb2 : decide (k < 18446744073709551615) = true := decide_eq_true (by omega)
          have hw1 : IntKind.u64.wrap ((k : Int) + 1) = (k : Int) + 1 := IntWalk.u64_in _ (by omega)
          clear hkb hkk hmx
          rcases (show 0 < i ∨ (¬ 0 < i ∧ 0 < k) ∨ (¬ 0 < i ∧ ¬ 0 < k) by omega) with hi0 | ⟨hi0, hk0⟩ | ⟨hi0, hk0⟩
          · obtain ⟨j, hj⟩ : ∃ j, i = j + 1 := ⟨i - 1, by omega⟩
            have hx2 : L[j]? = some v2 := by
              rw [hv2, hj, List.getLastD_eq_getLast?, List.getLast?_eq_getElem?, List.length_take, Nat.min_eq_left (by omega), Nat.add_sub_cancel, List.getElem?_take, if_pos (by omega), List.getElem?_eq_getElem (by omega)]; rfl
            have hm2 : v2 ∈ L.take i := List.mem_of_getElem? (i := j) (by rw [List.getElem?_take, if_pos (by omega)]; exact hx2)
            have hlt2 : v2 < k := (List.pairwise_append.1 hup).2.2 v2 hm2 k List.mem_cons_self
            have hk0 : 0 < k := by omega
            have hk0' : (0 : Int) < (k : Int) := by omega
            have hw2 := HWM.out hk0
            have hij : (i : Int) - 1 = (j : Int) := by omega
            have hi0' : (0 : Int) < (i : Int) := by omega
            have hjl : j < L.length := by omega
            rw [decide_eq_true hi0] at HPV
            have HX2 := Lib.hid hx2
            have HK0 := Lib.hid hk0
            clear hm2 hj hx2 hlt2 hk0 hk
            clear hnx hpv hup hdr hsp hv1 hv2 hb1 hb2
            go_upto_if 58 with (first
              | (go_at_call 14; refine (HNX.out HM1.out _ HXr.out HTr.out).mono ?_; rintro e w6 ⟨rfl, hX, hf⟩; have HXr := Lib.hid hX; have HF := Lib.hid (HF.out.trans hf); have HRr := Lib.hid (R_ft HRr.out hf); skip; clear hX hf)
              | (go_at_call 15; refine (HPV.out HK0.out _ HXr.out).mono ?_; rintro e w7 ⟨rfl, hX, hf⟩; have HXr := Lib.hid hX; have HF := Lib.hid (HF.out.trans hf); have HRr := Lib.hid (R_ft HRr.out hf); have hcp := R_key2 HRr.out HX2.out; clear hX hf))
            clear hmb1 hmb2 hw1
            go_wp2_with (first
              | (go_at_call 14; refine (HNX.out HM1.out _ HXr.out HTr.out).mono ?_; rintro e w6 ⟨rfl, hX, hf⟩; have HXr := Lib.hid hX; have HF := Lib.hid (HF.out.trans hf); have HRr := Lib.hid (R_ft HRr.out hf); skip; clear hX hf)
              | (go_at_call 15; refine (HPV.out HK0.out _ HXr.out).mono ?_; rintro e w7 ⟨rfl, hX, hf⟩; have HXr := Lib.hid hX; have HF := Lib.hid (HF.out.trans hf); have HRr := Lib.hid (R_ft HRr.out hf); have hcp := R_key2 HRr.out HX2.out; clear hX hf))
            go_roundw
            case rel => exact ⟨i + 1, by omega, by go_num, HXr, HF⟩
            case measure => simp [intOf]; omega
          · have hi0' : ¬ (0 : Int) < (i : Int) := by omega
            rw [decide_eq_false hi0] at HPV
            have hk0' : (0 : Int) < (k : Int) := by omega
            have hw2 := HWM.out hk0
            have HK0 := Lib.hid hk0
            clear hk0 hk hi0
            clear hnx hpv hup hdr hsp hv1 hv2 hb1 hb2
            go_upto_if 58 with (first
              | (go_at_call 14; refine (HNX.out HM1.out _ HXr.out HTr.out).mono ?_; rintro e w6 ⟨rfl, hX, hf⟩; have HXr := Lib.hid hX; have HF := Lib.hid (HF.out.trans hf); have HRr := Lib.hid (R_ft HRr.out hf); skip; clear hX hf)
              | (go_at_call 15; refine (HPV.out HK0.out _ HXr.out).mono ?_; rintro e w7 ⟨rfl, hX, hf⟩; have HXr := Lib.hid hX; have HF := Lib.hid (HF.out.trans hf); have HRr := Lib.hid (R_ft HRr.out hf); skip; clear hX hf))
            clear hmb1 hmb2 hw1
            go_wp2_with (first
              | (go_at_call 14; refine (HNX.out HM1.out _ HXr.out HTr.out).mono ?_; rintro e w6 ⟨rfl, hX, hf⟩; have HXr := Lib.hid hX; have HF := Lib.hid (HF.out.trans hf); have HRr := Lib.hid (R_ft HRr.out hf); skip; clear hX hf)
              | (go_at_call 15; refine (HPV.out HK0.out _ HXr.out).mono ?_; rintro e w7 ⟨rfl, hX, hf⟩; have HXr := Lib.hid hX; have HF := Lib.hid (HF.out.trans hf); have HRr := Lib.hid (R_ft HRr.out hf); skip; clear hX hf))
            go_roundw
            case rel => exact ⟨i + 1, by omega, by go_num, HXr, HF⟩
            case measure => simp [intOf]; omega
          · have hi0' : ¬ (0 : Int) < (i : Int) := by omega
            rw [decide_eq_false hi0] at HPV
            have hk0' : ¬ (0 : Int) < (k : Int) := by omega
            have HK0 : Hid (¬ 0 < k) := Lib.hid hk0
            clear hk0 hk hi0
            clear hnx hpv hup hdr hsp hv1 hv2 hb1 hb2
            go_upto_if 58 with (first
              | (go_at_call 14; refine (HNX.out HM1.out _ HXr.out HTr.out).mono ?_; rintro e w6 ⟨rfl, hX, hf⟩; have HXr := Lib.hid hX; have HF := Lib.hid (HF.out.trans hf); have HRr := Lib.hid (R_ft HRr.out hf); skip; clear hX hf)
              | (go_at_call 15; refine (HPV.out HK0.out _ HXr.out).mono ?_; rintro e w7 ⟨rfl, hX, hf⟩; have HXr := Lib.hid hX; have HF := Lib.hid (HF.out.trans hf); have HRr := Lib.hid (R_ft HRr.out hf); exact absurd trivial HK0.out; clear hX hf))
            clear hmb1 hmb2 hw1
            go_wp2_with (first
              | (go_at_call 14; refine (HNX.out HM1.out _ HXr.out HTr.out).mono ?_; rintro e w6 ⟨rfl, hX, hf⟩; have HXr := Lib.hid hX; have HF := Lib.hid (HF.out.trans hf); have HRr := Lib.hid (R_ft HRr.out hf); skip; clear hX hf)
              | (go_at_call 15; refine (HPV.out HK0.out _ HXr.out).mono ?_; rintro e w7 ⟨rfl, hX, hf⟩; have HXr := Lib.hid hX; have HF := Lib.hid (HF.out.trans hf); have HRr := Lib.hid (R_ft HRr.out hf); exact absurd trivial HK0.out; clear hX hf))
            go_roundw
            case rel => exact ⟨i + 1, by omega, by go_num, HXr, HF⟩
            case measure => simp [intOf]; omega
        · have hmb1 : decide ((k : Int) < 18446744073709551615) = false := decide_eq_false (by omega)
          have hmb2 : decide (k < 18446744073709551615) = false := decide_eq_false (by omega)
          clear hkb hkk hmx
          rcases (show 0 < i ∨ (¬ 0 < i ∧ 0 < k) ∨ (¬ 0 < i ∧ ¬ 0 < k) by omega) with hi0 | ⟨hi0, hk0⟩ | ⟨hi0, hk0⟩
          · obtain ⟨j, hj⟩ : ∃ j, i = j + 1 := ⟨i - 1, by omega⟩
            have hx2 : L[j]? = some v2 := by
              rw [hv2, hj, List.getLastD_eq_getLast?, List.getLast?_eq_getElem?, List.length_take, Nat.min_eq_left (by omega), Nat.add_sub_cancel, List.getElem?_take, if_pos (by omega), List.getElem?_eq_getElem (by omega)]; rfl
            have hm2 : v2 ∈ L.take i := List.mem_of_getElem? (i := j) (by rw [List.getElem?_take, if_pos (by omega)]; exact hx2)
            have hlt2 : v2 < k := (List.pairwise_append.1 hup).2.2 v2 hm2 k List.mem_cons_self
            have hk0 : 0 < k := by omega
            have hk0' : (0 : Int) < (k : Int) := by omega
            have hw2 := HWM.out hk0
            have hij : (i : Int) - 1 = (j : Int) := by omega
            have hi0' : (0 : Int) < (i : Int) := by omega
            have hjl : j < L.length := by omega
            rw [decide_eq_true hi0] at HPV
            have HX2 := Lib.hid hx2
            have HK0 := Lib.hid hk0
            clear hm2 hj hx2 hlt2 hk0 hk
            clear hnx hpv hup hdr hsp hv1 hv2 hb1 hb2
            go_upto_if 32 with fail
            clear hmb1 hmb2
            go_wp2_with (first
              | (go_at_call 15; refine (HPV.out HK0.out _ HXr.out).mono ?_; rintro e w7 ⟨rfl, hX, hf⟩; have HXr := Lib.hid hX; have HF := Lib.hid (HF.out.trans hf); have HRr := Lib.hid (R_ft HRr.out hf); have hcp := R_key2 HRr.out HX2.out; clear hX hf))
            go_roundw
            case rel => exact ⟨i + 1, by omega, by go_num, HXr, HF⟩
            case measure => simp [intOf]; omega
          · have hi0' : ¬ (0 : Int) < (i : Int) := by omega
            rw [decide_eq_false hi0] at HPV
            have hk0' : (0 : Int) < (k : Int) := by omega
            have hw2 := HWM.out hk0
            have HK0 := Lib.hid hk0
            clear hk0 hk hi0
            clear hnx hpv hup hdr hsp hv1 hv2 hb1 hb2
            go_upto_if 32 with fail
            clear hmb1 hmb2
            go_wp2_with (first
              | (go_at_call 15; refine (HPV.out HK0.out _ HXr.out).mono ?_; rintro e w7 ⟨rfl, hX, hf⟩; have HXr := Lib.hid hX; have HF := Lib.hid (HF.out.trans hf); have HRr := Lib.hid (R_ft HRr.out hf); skip; clear hX hf))
            go_roundw
            case rel => exact ⟨i + 1, by omega, by go_num, HXr, HF⟩
            case measure => simp [intOf]; omega
          · have hi0' : ¬ (0 : Int) < (i : Int) := by omega
            rw [decide_eq_false hi0] at HPV
            have hk0' : ¬ (0 : Int) < (k : Int) := by omega
            have HK0 : Hid (¬ 0 < k) := Lib.hid hk0
            clear hk0 hk hi0
            clear hnx hpv hup hdr hsp hv1 hv2 hb1 hb2
            go_upto_if 32 with fail
            clear hmb1 hmb2
            go_wp2_with (first
              | (go_at_call 15; refine (HPV.out HK0.out _ HXr.out).mono ?_; rintro e w7 ⟨rfl, hX, hf⟩; have HXr := Lib.hid hX; have HF := Lib.hid (HF.out.trans hf); have HRr := Lib.hid (R_ft HRr.out hf); exact absurd trivial HK0.out; clear hX hf))
            go_roundw
            case rel => exact ⟨i + 1, by omega, by go_num, HXr, HF⟩
            case measure => simp [intOf]; omega
    · go_wp2_with (go_at_call 16; refine (HSM.out w1.heap.size t _ _ HXr.out ((HT.out.step HN5.out).ft HF.out hg1) (R_ft HR5.out HF.out)).mono ?_; rintro e w6 ⟨rfl, hX, hf⟩; have HF6 := Lib.hid (HF.out.trans hf); clear hX hf)
      go_ret
      exact ⟨rfl, HN5.out.trans_of HF6.out (fun q hq e => by have := e.1; omega)⟩
end Go.Proofs.YtnhdcefoigmjpaaDoor

