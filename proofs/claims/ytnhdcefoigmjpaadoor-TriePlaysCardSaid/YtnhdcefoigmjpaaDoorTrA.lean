/-
  Merged by merge.py: TrPure TrPure2 TrPure3 TrPure4.
-/
import Derived.Test.YtnhdcefoigmjpaaDoorBitPure2
/-
  Plain facts for the trie: keys by their beginnings; what the node of a beginning holds; how many beginnings there are. No program here.
-/
namespace Go.Proofs.YtnhdcefoigmjpaaDoor
set_option linter.unusedVariables false
set_option linter.unusedSimpArgs false

/-! ### beginnings and digits -/
/-- A key's beginning, which names its node at a level; at level 11 the key. -/
def pre (i k : Nat) : Nat := k / 2 ^ (66 - 6 * i)
def dig (i k : Nat) : Nat := k / 2 ^ (60 - 6 * i) % 64
theorem dig_lt (i k : Nat) : dig i k < 64 := Nat.mod_lt _ (by decide)
theorem pre_key (k : Nat) : pre 11 k = k := by simp [pre]
theorem pre_zero {k : Nat} (h : k < 18446744073709551616) : pre 0 k = 0 := by
  unfold pre
  exact Nat.div_eq_of_lt (Nat.lt_of_lt_of_le h (by decide))
theorem pre_succ (i k : Nat) (hi : i ≤ 10) : pre (i + 1) k = pre i k * 64 + dig i k := by
  unfold pre dig
  rw [show 66 - 6 * (i + 1) = 60 - 6 * i by omega, show 66 - 6 * i = (60 - 6 * i) + 6 by omega, Nat.pow_add, ← Nat.div_div_eq_div_mul]
  show _ = k / 2 ^ (60 - 6 * i) / 64 * 64 + _
  omega
theorem pre_mono (i : Nat) {x y : Nat} (h : x ≤ y) : pre i x ≤ pre i y := Nat.div_le_div_right h
theorem pre_lt {i x y : Nat} (h : pre i x < pre i y) : x < y := by
  rcases Nat.lt_or_ge x y with h1 | h1
  · exact h1
  · have := pre_mono i h1; omega
theorem pre_up {i x y : Nat} (hi : i ≤ 10) (h : pre (i + 1) x = pre (i + 1) y) : pre i x = pre i y ∧ dig i x = dig i y := by
  rw [pre_succ i x hi, pre_succ i y hi] at h
  have := dig_lt i x
  have := dig_lt i y
  omega
theorem pre_same {i j x y : Nat} (hij : i ≤ j) (hj : j ≤ 11) (h : pre j x = pre j y) : pre i x = pre i y := by
  induction j with
  | zero => rw [show i = 0 by omega]; exact h
  | succ j ih =>
    by_cases e : i = j + 1
    · rw [e]; exact h
    · exact ih (by omega) (by omega) (pre_up (by omega) h).1
theorem pre_between {i x y k : Nat} (h : pre i x = pre i y) (h1 : x ≤ k) (h2 : k ≤ y) : pre i k = pre i x := by
  have a := pre_mono i h1
  have b := pre_mono i h2
  omega

/-! ### rising lists -/
def Up (l : List Nat) : Prop := l.Pairwise (· < ·)
theorem up_ext {l m : List Nat} (hl : Up l) (hm : Up m) (h : ∀ x, x ∈ l ↔ x ∈ m) : l = m := by
  induction l generalizing m with
  | nil =>
    cases m with
    | nil => rfl
    | cons y s => exact absurd ((h y).2 List.mem_cons_self) (by simp)
  | cons x r ih =>
    cases m with
    | nil => exact absurd ((h x).1 List.mem_cons_self) (by simp)
    | cons y s =>
      obtain ⟨hx, hr⟩ := List.pairwise_cons.1 hl
      obtain ⟨hy, hs⟩ := List.pairwise_cons.1 hm
      have e : x = y := by
        rcases List.mem_cons.1 ((h x).1 List.mem_cons_self) with e | e
        · exact e
        · rcases List.mem_cons.1 ((h y).2 List.mem_cons_self) with e2 | e2
          · exact e2.symm
          · have := hx y e2; have := hy x e; omega
      subst e
      congr 1
      refine ih hr hs (fun z => ?_)
      constructor
      · intro hz
        rcases List.mem_cons.1 ((h z).1 (List.mem_cons_of_mem _ hz)) with e | e
        · subst e; exact absurd (hx z hz) (by omega)
        · exact e
      · intro hz
        rcases List.mem_cons.1 ((h z).2 (List.mem_cons_of_mem _ hz)) with e | e
        · subst e; exact absurd (hy z hz) (by omega)
        · exact e
theorem up_filter {l : List Nat} (h : Up l) (q : Nat → Bool) : Up (l.filter q) := h.filter q
def insS : List Nat → Nat → List Nat
  | [], k => [k]
  | x :: r, k => if k < x then k :: x :: r else x :: insS r k
theorem mem_insS (l : List Nat) (k x : Nat) : x ∈ insS l k ↔ x = k ∨ x ∈ l := by
  induction l with
  | nil => simp [insS]
  | cons y r ih =>
    unfold insS
    split
    · simp
    · simp only [List.mem_cons, ih]
      constructor
      · rintro (h | h | h)
        · exact .inr (.inl h)
        · exact .inl h
        · exact .inr (.inr h)
      · rintro (h | h | h)
        · exact .inr (.inl h)
        · exact .inl h
        · exact .inr (.inr h)
theorem up_insS {l : List Nat} (h : Up l) {k : Nat} (hk : k ∉ l) : Up (insS l k) := by
  induction l with
  | nil => simp [insS, Up]
  | cons y r ih =>
    obtain ⟨hy, hr⟩ := List.pairwise_cons.1 h
    unfold insS
    split
    · rename_i hlt
      refine List.pairwise_cons.2 ⟨fun z hz => ?_, h⟩
      rcases List.mem_cons.1 hz with rfl | hz
      · exact hlt
      · have := hy z hz; omega
    · rename_i hlt
      have hne : k ≠ y := fun e => hk (by rw [e]; exact List.mem_cons_self)
      refine List.pairwise_cons.2 ⟨fun z hz => ?_, ih hr (fun hm => hk (List.mem_cons_of_mem _ hm))⟩
      rcases (mem_insS r k z).1 hz with rfl | hz
      · omega
      · exact hy z hz
theorem len_insS (l : List Nat) (k : Nat) : (insS l k).length = l.length + 1 := by
  induction l with
  | nil => rfl
  | cons y r ih => unfold insS; split <;> simp [ih]
def dropS (l : List Nat) (k : Nat) : List Nat := l.filter (fun x => decide (x ≠ k))
theorem mem_dropS (l : List Nat) (k x : Nat) : x ∈ dropS l k ↔ x ∈ l ∧ x ≠ k := by simp [dropS]
theorem up_dropS {l : List Nat} (h : Up l) (k : Nat) : Up (dropS l k) := up_filter h _
theorem ins_drop {l : List Nat} (h : Up l) {k : Nat} (hk : k ∈ l) : insS (dropS l k) k = l := by
  refine up_ext (up_insS (up_dropS h k) (fun h => by rw [mem_dropS] at h; exact h.2 rfl)) h (fun x => ?_)
  rw [mem_insS, mem_dropS]
  constructor
  · rintro (rfl | h)
    · exact hk
    · exact h.1
  · intro hx
    by_cases e : x = k
    · exact .inl e
    · exact .inr ⟨hx, e⟩
theorem head_min {l : List Nat} (h : Up l) {m : Nat} (hm : m ∈ l) (hle : ∀ x, x ∈ l → m ≤ x) (d : Nat) : l.headD d = m := by
  cases l with
  | nil => cases hm
  | cons x r =>
    have h1 := hle x List.mem_cons_self
    rcases List.mem_cons.1 hm with rfl | hm
    · rfl
    · have := (List.pairwise_cons.1 h).1 m hm
      show x = m
      omega
theorem head_le {l : List Nat} (h : Up l) (d : Nat) {x : Nat} (hx : x ∈ l) : l.headD d ≤ x := by
  cases l with
  | nil => cases hx
  | cons y r =>
    rcases List.mem_cons.1 hx with rfl | hx
    · exact Nat.le_refl _
    · exact Nat.le_of_lt ((List.pairwise_cons.1 h).1 x hx)
theorem head_mem {l : List Nat} (h : l ≠ []) (d : Nat) : l.headD d ∈ l := by
  cases l with
  | nil => exact absurd rfl h
  | cons y r => exact List.mem_cons_self
theorem last_mem {l : List Nat} (h : l ≠ []) (d : Nat) : l.getLastD d ∈ l := by
  cases l with
  | nil => exact absurd rfl h
  | cons y r => simp [List.getLastD_eq_getLast?, List.getLast?_eq_some_getLast]
theorem last_ge {l : List Nat} (h : Up l) (d : Nat) {x : Nat} (hx : x ∈ l) : x ≤ l.getLastD d := by
  induction l generalizing d x with
  | nil => cases hx
  | cons y r ih =>
    obtain ⟨hy, hr⟩ := List.pairwise_cons.1 h
    rw [List.getLastD_cons]
    rcases List.mem_cons.1 hx with rfl | hx
    · cases r with
      | nil => exact Nat.le_refl _
      | cons z s => exact Nat.le_trans (Nat.le_of_lt (hy z List.mem_cons_self)) (ih hr x (x := z) List.mem_cons_self)
    · exact ih hr y hx
theorem last_max {l : List Nat} (h : Up l) {m : Nat} (hm : m ∈ l) (hle : ∀ x, x ∈ l → x ≤ m) (d : Nat) : l.getLastD d = m := by
  have h1 := last_ge h d hm
  have h2 := hle _ (last_mem (fun e => by rw [e] at hm; cases hm) d)
  omega

/-! ### the keys of one beginning -/
def cls (l : List Nat) (i p : Nat) : List Nat := l.filter (fun x => decide (pre i x = p))
theorem mem_cls (l : List Nat) (i p x : Nat) : x ∈ cls l i p ↔ x ∈ l ∧ pre i x = p := by simp [cls]
theorem up_cls {l : List Nat} (h : Up l) (i p : Nat) : Up (cls l i p) := up_filter h _
theorem cls_ins {l : List Nat} (h : Up l) {k : Nat} (hk : k ∉ l) (i p : Nat) : cls (insS l k) i p = if pre i k = p then insS (cls l i p) k else cls l i p := by
  have hu := up_cls (up_insS h hk) i p
  split
  · rename_i e
    refine up_ext hu (up_insS (up_cls h i p) (fun h => hk ((mem_cls l i p k).1 h).1)) (fun x => ?_)
    rw [mem_cls, mem_insS, mem_insS, mem_cls]
    constructor
    · rintro ⟨rfl | h1, h2⟩
      · exact .inl rfl
      · exact .inr ⟨h1, h2⟩
    · rintro (rfl | ⟨h1, h2⟩)
      · exact ⟨.inl rfl, e⟩
      · exact ⟨.inr h1, h2⟩
  · rename_i e
    refine up_ext hu (up_cls h i p) (fun x => ?_)
    rw [mem_cls, mem_insS, mem_cls]
    constructor
    · rintro ⟨rfl | h1, h2⟩
      · exact absurd h2 e
      · exact ⟨h1, h2⟩
    · rintro ⟨h1, h2⟩
      exact ⟨.inr h1, h2⟩
theorem cls_child {l : List Nat} {i p d : Nat} (hi : i ≤ 10) (hd : d < 64) : cls l (i + 1) (p * 64 + d) = (cls l i p).filter (fun x => decide (dig i x = d)) := by
  unfold cls
  rw [List.filter_filter]
  apply List.filter_congr
  intro x _
  rw [pre_succ i x hi, Bool.eq_iff_iff]
  have := dig_lt i x
  simp only [Bool.and_eq_true, decide_eq_true_iff]
  omega
theorem cls_root {l : List Nat} (h : ∀ x, x ∈ l → x < 18446744073709551616) : cls l 0 0 = l := by
  unfold cls
  apply List.filter_eq_self.2
  intro x hx
  rw [pre_zero (h x hx)]; rfl

/-! ### the digits of one beginning -/
def bitsC (l : List Nat) (i p : Nat) : Nat := (cls l i p).foldl (fun w x => w ||| 2 ^ dig i x) 0
theorem tb_fold (c : List Nat) (f : Nat → Nat) (w j : Nat) : (c.foldl (fun w x => w ||| 2 ^ f x) w).testBit j = (w.testBit j || decide (∃ x, x ∈ c ∧ f x = j)) := by
  induction c generalizing w with
  | nil => simp
  | cons y r ih =>
    rw [List.foldl_cons, ih, Nat.testBit_or, Nat.testBit_two_pow, Bool.or_assoc]
    congr 1
    rw [Bool.eq_iff_iff]
    simp only [Bool.or_eq_true, decide_eq_true_iff, List.mem_cons]
    constructor
    · rintro (h | ⟨x, hx, h⟩)
      · exact ⟨y, .inl rfl, h⟩
      · exact ⟨x, .inr hx, h⟩
    · rintro ⟨x, rfl | hx, h⟩
      · exact .inl h
      · exact .inr ⟨x, hx, h⟩
theorem tb_bits (l : List Nat) (i p d : Nat) : (bitsC l i p).testBit d = decide (∃ x, x ∈ cls l i p ∧ dig i x = d) := by
  unfold bitsC
  rw [tb_fold, Nat.zero_testBit, Bool.false_or]
theorem bits_lt (l : List Nat) (i p : Nat) : bitsC l i p < 18446744073709551616 := by
  rw [U64_pow]
  apply Nat.lt_pow_two_of_testBit
  intro j hj
  rw [tb_bits, decide_eq_false]
  rintro ⟨x, _, h⟩
  have := dig_lt i x
  omega
theorem mem_digits (l : List Nat) (i p : Nat) (d : Int) : d ∈ listW (bitsC l i p) ↔ ∃ x, x ∈ cls l i p ∧ (dig i x : Int) = d := by
  rw [mem_listW, tb_bits, decide_eq_true_iff]
  constructor
  · rintro ⟨h1, h2, x, hx, h⟩
    exact ⟨x, hx, by omega⟩
  · rintro ⟨x, hx, h⟩
    have := dig_lt i x
    exact ⟨by omega, by omega, x, hx, by omega⟩
theorem bits_ins {l : List Nat} (h : Up l) {k : Nat} (hk : k ∉ l) (i p : Nat) : bitsC (insS l k) i p = if pre i k = p then setN (bitsC l i p) (dig i k : Nat) else bitsC l i p := by
  have hd := dig_lt i k
  apply Nat.eq_of_testBit_eq
  intro j
  rw [tb_bits, cls_ins h hk]
  split
  · unfold setN
    rw [Nat.testBit_or, tb_oneN, tb_bits, Bool.eq_iff_iff]
    simp only [Bool.or_eq_true, decide_eq_true_iff, mem_insS]
    constructor
    · rintro ⟨x, rfl | hx, e⟩
      · exact .inr ⟨by omega, by omega⟩
      · exact .inl ⟨x, hx, e⟩
    · rintro (⟨x, hx, e⟩ | ⟨e, _⟩)
      · exact ⟨x, .inr hx, e⟩
      · exact ⟨k, .inl rfl, by omega⟩
  · rw [tb_bits]
theorem bits_zero (l : List Nat) (i p : Nat) : bitsC l i p = 0 ↔ cls l i p = [] := by
  constructor
  · intro h
    cases hc : cls l i p with
    | nil => rfl
    | cons x r =>
      have : (bitsC l i p).testBit (dig i x) = true := by
        rw [tb_bits, decide_eq_true_iff]; exact ⟨x, by rw [hc]; exact List.mem_cons_self, rfl⟩
      rw [h, Nat.zero_testBit] at this; cases this
  · intro h; unfold bitsC; rw [h]; rfl
theorem digit_there (l : List Nat) (i p d : Nat) (hi : i ≤ 10) (hd : d < 64) : (bitsC l i p).testBit d = true ↔ cls l (i + 1) (p * 64 + d) ≠ [] := by
  rw [tb_bits, decide_eq_true_iff, cls_child hi hd]
  constructor
  · rintro ⟨x, hx, e⟩ h
    have : x ∈ (cls l i p).filter (fun x => decide (dig i x = d)) := by simp [hx, e]
    rw [h] at this; cases this
  · intro h
    obtain ⟨x, hx⟩ := List.exists_mem_of_ne_nil _ h
    simp at hx
    exact ⟨x, hx⟩

end Go.Proofs.YtnhdcefoigmjpaaDoor

/-
  Plain facts for the trie: the children of a node, when a key comes or goes; the least and the greatest below; how many are below.
-/
namespace Go.Proofs.YtnhdcefoigmjpaaDoor
set_option linter.unusedVariables false
set_option linter.unusedSimpArgs false

/-! ### a rising list, split at a number -/
theorem rank_split {l : List Int} (hl : l.Pairwise (· < ·)) (n : Int) : l.take (rankL l n) = l.filter (fun x => decide (x < n)) ∧ l.drop (rankL l n) = l.filter (fun x => decide (n ≤ x)) := by
  induction l with
  | nil => simp [rankL]
  | cons x r ih =>
    obtain ⟨hx, hr⟩ := List.pairwise_cons.1 hl
    obtain ⟨h1, h2⟩ := ih hr
    rw [rankL_cons]
    by_cases h : x < n
    · rw [if_pos h, Nat.add_comm, List.take_succ_cons, List.drop_succ_cons, h1, h2]
      simp [h, show ¬ n ≤ x by omega]
    · rw [if_neg h, rankL_ge (fun y hy => by have := hx y hy; omega)]
      have e1 : (x :: r).filter (fun x => decide (x < n)) = [] := List.filter_eq_nil_iff.2 (fun y hy => by
        rcases List.mem_cons.1 hy with rfl | hy
        · simpa using h
        · have := hx y hy; simp; omega)
      have e2 : (x :: r).filter (fun x => decide (n ≤ x)) = x :: r := List.filter_eq_self.2 (fun y hy => by
        rcases List.mem_cons.1 hy with rfl | hy
        · simp; omega
        · have := hx y hy; simp; omega)
      rw [e1, e2]; exact ⟨rfl, rfl⟩
theorem rank_at {l : List Int} (hl : l.Pairwise (· < ·)) {n : Int} (hn : n ∈ l) : rankL l n < l.length ∧ l[rankL l n]? = some n := by
  obtain ⟨h1, h2⟩ := rank_split hl n
  have hm : n ∈ l.drop (rankL l n) := by rw [h2]; simp [hn]
  have hlt : rankL l n < l.length := by
    rcases Nat.lt_or_ge (rankL l n) l.length with h | h
    · exact h
    · rw [List.drop_eq_nil_of_le h] at hm; cases hm
  refine ⟨hlt, ?_⟩
  have e : l.drop (rankL l n) = l[rankL l n] :: l.drop (rankL l n + 1) := List.drop_eq_getElem_cons hlt
  have hs : (l.drop (rankL l n)).Pairwise (· < ·) := hl.drop
  have hge : n ≤ l[rankL l n] := by
    have : l[rankL l n] ∈ l.drop (rankL l n) := by rw [e]; exact List.mem_cons_self
    rw [h2] at this; simpa using (List.mem_filter.1 this).2
  rw [e] at hm hs
  rw [List.getElem?_eq_getElem hlt]
  rcases List.mem_cons.1 hm with h | h
  · rw [← h]
  · have := (List.pairwise_cons.1 hs).1 n h; omega
theorem addL_split {l : List Int} (hl : l.Pairwise (· < ·)) {n : Int} (hn : n ∉ l) : addL l n = l.take (rankL l n) ++ n :: l.drop (rankL l n) := by
  obtain ⟨h1, h2⟩ := rank_split hl n
  refine sorted_ext (addL_sorted hl n) ?_ (fun x => ?_)
  · rw [h1, h2]
    refine List.pairwise_append.2 ⟨hl.filter _, List.pairwise_cons.2 ⟨fun y hy => ?_, hl.filter _⟩, fun a ha b hb => ?_⟩
    · simp at hy
      have : y ≠ n := fun e => hn (e ▸ hy.1)
      omega
    · simp at ha hb
      rcases hb with rfl | hb
      · exact ha.2
      · omega
  · rw [addL_mem, h1, h2]
    simp only [List.mem_append, List.mem_cons, List.mem_filter, decide_eq_true_iff]
    constructor
    · rintro (h | rfl)
      · by_cases e : x < n
        · exact .inl ⟨h, e⟩
        · exact .inr (.inr ⟨h, by omega⟩)
      · exact .inr (.inl rfl)
    · rintro (h | rfl | h)
      · exact .inl h.1
      · exact .inr rfl
      · exact .inl h.1
theorem dropL_split {l : List Int} (hl : l.Pairwise (· < ·)) {n : Int} (hn : n ∈ l) : dropL l n = l.take (rankL l n) ++ l.drop (rankL l n + 1) := by
  obtain ⟨h1, h2⟩ := rank_split hl n
  obtain ⟨hlt, hat⟩ := rank_at hl hn
  have e : l.drop (rankL l n) = n :: l.drop (rankL l n + 1) := by
    rw [List.drop_eq_getElem_cons hlt]
    rw [List.getElem?_eq_getElem hlt] at hat
    injection hat with hat
    rw [hat]
  have hs : (n :: l.drop (rankL l n + 1)).Pairwise (· < ·) := by rw [← e]; exact hl.drop
  obtain ⟨hs1, hs2⟩ := List.pairwise_cons.1 hs
  refine sorted_ext (dropL_sorted hl n) ?_ (fun x => ?_)
  · refine List.pairwise_append.2 ⟨hl.take, hs2, fun a ha b hb => ?_⟩
    rw [h1] at ha
    simp at ha
    have := hs1 b hb
    omega
  · rw [dropL_mem, List.mem_append]
    have hx : x ∈ l ↔ x ∈ l.take (rankL l n) ∨ x ∈ n :: l.drop (rankL l n + 1) := by
      rw [← e, ← List.mem_append, List.take_append_drop]
    rw [hx, List.mem_cons]
    constructor
    · rintro ⟨h | h | h, hne⟩
      · exact .inl h
      · exact absurd h hne
      · exact .inr h
    · rintro (h | h)
      · refine ⟨.inl h, fun e => ?_⟩
        subst e; rw [h1] at h; simp at h
      · exact ⟨.inr (.inr h), fun e => by subst e; have := hs1 x h; omega⟩

/-! ### the children of a node -/
/-- Where the node of a beginning lies. -/
abbrev Ad : Type := Nat → Nat → Nat
def kidC (ad : Ad) (l : List Nat) (i p : Nat) : List Int := (listW (bitsC l i p)).map (fun d => ((ad (i + 1) (p * 64 + d.toNat) : Nat) : Int))
theorem kid_len (ad : Ad) (l : List Nat) (i p : Nat) : (kidC ad l i p).length = cntN (bitsC l i p) := by simp [kidC, cntN]
theorem kid_at (ad : Ad) (l : List Nat) (i k : Nat) (hi : i ≤ 10) (h : ∃ x, x ∈ l ∧ pre (i + 1) x = pre (i + 1) k) :
    rankL (listW (bitsC l i (pre i k))) (dig i k : Nat) < (kidC ad l i (pre i k)).length ∧ (kidC ad l i (pre i k))[rankL (listW (bitsC l i (pre i k))) (dig i k : Nat)]? = some ((ad (i + 1) (pre (i + 1) k) : Nat) : Int) := by
  obtain ⟨x, hx, e⟩ := h
  obtain ⟨e1, e2⟩ := pre_up hi e
  have hm : ((dig i k : Nat) : Int) ∈ listW (bitsC l i (pre i k)) := (mem_digits l i _ _).2 ⟨x, (mem_cls l i _ x).2 ⟨hx, e1⟩, by rw [e2]⟩
  obtain ⟨h1, h2⟩ := rank_at (listW_sorted _) hm
  refine ⟨by simpa [kidC] using h1, ?_⟩
  unfold kidC
  rw [List.getElem?_map, h2, pre_succ i k hi]
  simp
/-- A key's beginning that was there already: no child more. -/
theorem kid_old (ad ad' : Ad) {l : List Nat} (h : Up l) {k : Nat} (hk : k ∉ l) (i p : Nat) (hi : i ≤ 10) (hold : pre i k = p → ∃ x, x ∈ l ∧ pre (i + 1) x = pre (i + 1) k)
    (hag : ∀ x, x ∈ l → ad' (i + 1) (pre (i + 1) x) = ad (i + 1) (pre (i + 1) x)) : bitsC (insS l k) i p = bitsC l i p ∧ kidC ad' (insS l k) i p = kidC ad l i p := by
  have hb : bitsC (insS l k) i p = bitsC l i p := by
    rw [bits_ins h hk]
    split
    · rename_i e
      obtain ⟨x, hx, he⟩ := hold e
      obtain ⟨e1, e2⟩ := pre_up hi he
      have ht : (bitsC l i p).testBit (dig i k) = true := by
        rw [tb_bits, decide_eq_true_iff]; exact ⟨x, (mem_cls l i p x).2 ⟨hx, by rw [e1, e]⟩, e2⟩
      have hd := dig_lt i k
      unfold setN
      apply Nat.eq_of_testBit_eq
      intro j
      rw [Nat.testBit_or, tb_oneN]
      by_cases ej : j = dig i k
      · subst ej; rw [ht]; simp
      · rw [decide_eq_false (by omega), Bool.or_false]
    · rfl
  refine ⟨hb, ?_⟩
  unfold kidC
  rw [hb]
  apply List.map_congr_left
  intro d hd
  obtain ⟨x, hx, e⟩ := (mem_digits l i p d).1 hd
  obtain ⟨hx1, hx2⟩ := (mem_cls l i p x).1 hx
  have : p * 64 + d.toNat = pre (i + 1) x := by rw [pre_succ i x hi, hx2, ← e]; simp
  rw [this, hag x hx1]
/-- A beginning that is new: one child more. -/
theorem kid_new (ad ad' : Ad) {l : List Nat} (h : Up l) {k : Nat} (hk : k ∉ l) (i : Nat) (hi : i ≤ 10) (hnew : ∀ x, x ∈ l → pre (i + 1) x ≠ pre (i + 1) k)
    (hag : ∀ x, x ∈ l → ad' (i + 1) (pre (i + 1) x) = ad (i + 1) (pre (i + 1) x)) :
    bitsC (insS l k) i (pre i k) = setN (bitsC l i (pre i k)) (dig i k : Nat) ∧
    kidC ad' (insS l k) i (pre i k) = (kidC ad l i (pre i k)).take (rankL (listW (bitsC l i (pre i k))) (dig i k : Nat)) ++ ((ad' (i + 1) (pre (i + 1) k) : Nat) : Int) :: (kidC ad l i (pre i k)).drop (rankL (listW (bitsC l i (pre i k))) (dig i k : Nat)) := by
  have hd := dig_lt i k
  have hb : bitsC (insS l k) i (pre i k) = setN (bitsC l i (pre i k)) (dig i k : Nat) := by rw [bits_ins h hk, if_pos rfl]
  refine ⟨hb, ?_⟩
  have hn : ((dig i k : Nat) : Int) ∉ listW (bitsC l i (pre i k)) := by
    intro hm
    obtain ⟨x, hx, e⟩ := (mem_digits l i _ _).1 hm
    obtain ⟨hx1, hx2⟩ := (mem_cls l i _ x).1 hx
    exact hnew x hx1 (by rw [pre_succ i x hi, pre_succ i k hi, hx2]; omega)
  unfold kidC
  rw [hb, list_set _ _ (by omega) (by omega), addL_split (listW_sorted _) hn, List.map_append, List.map_cons]
  have hold : ∀ d, d ∈ listW (bitsC l i (pre i k)) → ((ad' (i + 1) (pre i k * 64 + d.toNat) : Nat) : Int) = ((ad (i + 1) (pre i k * 64 + d.toNat) : Nat) : Int) := by
    intro d hd
    obtain ⟨x, hx, e⟩ := (mem_digits l i _ d).1 hd
    obtain ⟨hx1, hx2⟩ := (mem_cls l i _ x).1 hx
    have : pre i k * 64 + d.toNat = pre (i + 1) x := by rw [pre_succ i x hi, hx2, ← e]; simp
    rw [this, hag x hx1]
  congr 1
  · rw [← List.map_take]
    exact List.map_congr_left (fun d hd => hold d (List.mem_of_mem_take hd))
  · congr 1
    · rw [pre_succ i k hi]; simp
    · rw [← List.map_drop]
      exact List.map_congr_left (fun d hd => hold d (List.mem_of_mem_drop hd))
/-- A beginning that goes: one child less. -/
theorem kid_gone (ad : Ad) {l : List Nat} (h : Up l) {k : Nat} (hk : k ∉ l) (i : Nat) (hi : i ≤ 10) (hnew : ∀ x, x ∈ l → pre (i + 1) x ≠ pre (i + 1) k) :
    bitsC l i (pre i k) = clrN (bitsC (insS l k) i (pre i k)) (dig i k : Nat) ∧
    kidC ad l i (pre i k) = (kidC ad (insS l k) i (pre i k)).take (rankL (listW (bitsC (insS l k) i (pre i k))) (dig i k : Nat)) ++ (kidC ad (insS l k) i (pre i k)).drop (rankL (listW (bitsC (insS l k) i (pre i k))) (dig i k : Nat) + 1) := by
  have hd := dig_lt i k
  have hnb : (bitsC l i (pre i k)).testBit (dig i k) = false := by
    rw [tb_bits, decide_eq_false]
    rintro ⟨x, hx, e⟩
    obtain ⟨hx1, hx2⟩ := (mem_cls l i _ x).1 hx
    exact hnew x hx1 (by rw [pre_succ i x hi, pre_succ i k hi, hx2]; omega)
  have hb : bitsC l i (pre i k) = clrN (bitsC (insS l k) i (pre i k)) (dig i k : Nat) := by
    rw [bits_ins h hk, if_pos rfl, clr_set _ (bits_lt _ _ _)]
    unfold clrN
    apply Nat.eq_of_testBit_eq
    intro j
    rw [Nat.testBit_and, tb_notN _ (oneN_lt _), tb_oneN]
    by_cases ej : j = dig i k
    · subst ej; rw [hnb]; simp
    · by_cases hj : j < 64
      · simp [hj]; intro _; omega
      · rw [tb_high (bits_lt _ _ _) (by omega)]; simp
  refine ⟨hb, ?_⟩
  have hm : ((dig i k : Nat) : Int) ∈ listW (bitsC (insS l k) i (pre i k)) := (mem_digits _ i _ _).2 ⟨k, (mem_cls _ i _ k).2 ⟨(mem_insS l k k).2 (.inl rfl), rfl⟩, rfl⟩
  unfold kidC
  rw [hb, list_clr, dropL_split (listW_sorted _) hm, List.map_append, List.map_take, List.map_drop]

/-! ### the least and the greatest below a node -/
theorem head_ins {l : List Nat} (h : Up l) {k : Nat} (hk : k ∉ l) (d : Nat) : (insS l k).headD d = if l = [] then k else min (l.headD d) k := by
  split
  · rename_i e; subst e; rfl
  · rename_i e
    have hm := head_mem e d
    refine head_min (up_insS h hk) ?_ (fun x hx => ?_) d
    · rw [mem_insS]
      rcases Nat.le_total (l.headD d) k with h1 | h1
      · rw [Nat.min_eq_left h1]; exact .inr hm
      · rw [Nat.min_eq_right h1]; exact .inl rfl
    · rcases (mem_insS l k x).1 hx with rfl | hx
      · omega
      · have := head_le h d hx; omega
theorem last_ins {l : List Nat} (h : Up l) {k : Nat} (hk : k ∉ l) (d : Nat) : (insS l k).getLastD d = if l = [] then k else max (l.getLastD d) k := by
  split
  · rename_i e; subst e; rfl
  · rename_i e
    have hm := last_mem e d
    refine last_max (up_insS h hk) ?_ (fun x hx => ?_) d
    · rw [mem_insS]
      rcases Nat.le_total (l.getLastD d) k with h1 | h1
      · rw [Nat.max_eq_right h1]; exact .inl rfl
      · rw [Nat.max_eq_left h1]; exact .inr hm
    · rcases (mem_insS l k x).1 hx with rfl | hx
      · omega
      · have := last_ge h d hx; omega
theorem digits_ne {l : List Nat} {i p : Nat} (h : cls l i p ≠ []) : listW (bitsC l i p) ≠ [] := by
  obtain ⟨x, hx⟩ := List.exists_mem_of_ne_nil _ h
  intro e
  have := (mem_digits l i p _).2 ⟨x, hx, rfl⟩
  rw [e] at this; cases this
/-- The least of all lies below the first child. -/
theorem head_kid (ad : Ad) {l : List Nat} (h : Up l) (i p : Nat) (hi : i ≤ 10) (hne : cls l i p ≠ []) :
    ∃ x, x ∈ cls l i p ∧ (kidC ad l i p)[0]? = some ((ad (i + 1) (pre (i + 1) x) : Nat) : Int) ∧ (cls l i p).headD 0 = (cls l (i + 1) (pre (i + 1) x)).headD 0 ∧ lowN (bitsC l i p) = dig i x := by
  obtain ⟨x, hx⟩ : ∃ x, x = (cls l i p).headD 0 := ⟨_, rfl⟩
  have hm : x ∈ cls l i p := by rw [hx]; exact head_mem hne 0
  obtain ⟨hm1, hm2⟩ := (mem_cls l i p x).1 hm
  have hle : ∀ y, y ∈ cls l i p → x ≤ y := fun y hy => by rw [hx]; exact head_le (up_cls h i p) 0 hy
  have hlow : lowN (bitsC l i p) = dig i x := by
    have hs := listW_sorted (bitsC l i p)
    have hxm := (mem_digits l i p _).2 ⟨x, hm, rfl⟩
    unfold lowN
    cases hl : listW (bitsC l i p) with
    | nil => rw [hl] at hxm; cases hxm
    | cons a r =>
      rw [hl] at hxm hs
      show a = _
      rcases List.mem_cons.1 hxm with e | e
      · exact e.symm
      · have h1 := (List.pairwise_cons.1 hs).1 _ e
        obtain ⟨y, hy, e2⟩ := (mem_digits l i p a).1 (by rw [hl]; exact List.mem_cons_self)
        have h2 := pre_mono (i + 1) (hle y hy)
        rw [pre_succ i x hi, pre_succ i y hi, hm2, ((mem_cls l i p y).1 hy).2] at h2
        omega
  refine ⟨x, hm, ?_, ?_, hlow⟩
  · unfold lowN at hlow
    unfold kidC
    cases hl : listW (bitsC l i p) with
    | nil => exact absurd hl (digits_ne hne)
    | cons a r =>
      rw [hl] at hlow
      have : a = (dig i x : Int) := hlow
      subst this
      rw [pre_succ i x hi, hm2]
      simp
  · rw [← hx]
    refine (head_min (up_cls h _ _) ((mem_cls l _ _ x).2 ⟨hm1, rfl⟩) (fun y hy => ?_) 0).symm
    obtain ⟨hy1, hy2⟩ := (mem_cls l _ _ y).1 hy
    exact hle y ((mem_cls l i p y).2 ⟨hy1, by rw [(pre_up hi hy2).1, hm2]⟩)
/-- The greatest of all lies below the last child. -/
theorem last_kid (ad : Ad) {l : List Nat} (h : Up l) (i p : Nat) (hi : i ≤ 10) (hne : cls l i p ≠ []) :
    ∃ x, x ∈ cls l i p ∧ (kidC ad l i p)[(kidC ad l i p).length - 1]? = some ((ad (i + 1) (pre (i + 1) x) : Nat) : Int) ∧ (cls l i p).getLastD 0 = (cls l (i + 1) (pre (i + 1) x)).getLastD 0 ∧ highN (bitsC l i p) = dig i x := by
  obtain ⟨x, hx⟩ : ∃ x, x = (cls l i p).getLastD 0 := ⟨_, rfl⟩
  have hm : x ∈ cls l i p := by rw [hx]; exact last_mem hne 0
  obtain ⟨hm1, hm2⟩ := (mem_cls l i p x).1 hm
  have hle : ∀ y, y ∈ cls l i p → y ≤ x := fun y hy => by rw [hx]; exact last_ge (up_cls h i p) 0 hy
  have hxm := (mem_digits l i p _).2 ⟨x, hm, rfl⟩
  have hlast : (listW (bitsC l i p)).getLast? = some ((dig i x : Nat) : Int) := by
    have hs := listW_sorted (bitsC l i p)
    obtain ⟨s, a, hsa⟩ : ∃ s a, listW (bitsC l i p) = s ++ [a] := by
      rcases List.eq_nil_or_concat (listW (bitsC l i p)) with e | ⟨s, a, e⟩
      · rw [e] at hxm; cases hxm
      · exact ⟨s, a, by simpa using e⟩
    rw [hsa] at hxm hs ⊢
    rw [List.getLast?_append, List.getLast?_singleton]
    show some a = _
    congr 1
    rcases List.mem_append.1 hxm with e | e
    · have h1 := (List.pairwise_append.1 hs).2.2 _ e a (List.mem_singleton.2 rfl)
      obtain ⟨y, hy, e2⟩ := (mem_digits l i p a).1 (by rw [hsa]; simp)
      have h2 := pre_mono (i + 1) (hle y hy)
      rw [pre_succ i x hi, pre_succ i y hi, hm2, ((mem_cls l i p y).1 hy).2] at h2
      omega
    · exact (List.mem_singleton.1 e).symm
  refine ⟨x, hm, ?_, ?_, ?_⟩
  · unfold kidC
    rw [List.length_map, List.getElem?_map, ← List.getLast?_eq_getElem?, hlast, pre_succ i x hi, hm2]
    simp
  · rw [← hx]
    refine (last_max (up_cls h _ _) ((mem_cls l _ _ x).2 ⟨hm1, rfl⟩) (fun y hy => ?_) 0).symm
    obtain ⟨hy1, hy2⟩ := (mem_cls l _ _ y).1 hy
    exact hle y ((mem_cls l i p y).2 ⟨hy1, by rw [(pre_up hi hy2).1, hm2]⟩)
  · unfold highN
    rw [List.getLastD_eq_getLast?, hlast]; rfl

end Go.Proofs.YtnhdcefoigmjpaaDoor

/-
  Plain facts for the trie: how many keys are below, the k-th, the next and the last one; how many beginnings there are.
-/
namespace Go.Proofs.YtnhdcefoigmjpaaDoor
set_option linter.unusedVariables false
set_option linter.unusedSimpArgs false

/-! ### a class is its children's classes, one behind the other -/
theorem cls_concat {l : List Nat} (h : Up l) (i p : Nat) (hi : i ≤ 10) : cls l i p = (listW (bitsC l i p)).flatMap (fun d => cls l (i + 1) (p * 64 + d.toNat)) := by
  refine up_ext (up_cls h i p) ?_ (fun x => ?_)
  · unfold Up
    rw [List.pairwise_flatMap]
    refine ⟨fun d _ => up_cls h _ _, ?_⟩
    have hs := listW_sorted (bitsC l i p)
    have hall : ∀ d, d ∈ listW (bitsC l i p) → 0 ≤ d ∧ d < 64 := fun d hd => by have := (mem_listW _ d).1 hd; omega
    refine List.Pairwise.imp_of_mem ?_ hs
    intro a b ha hb hab x hx y hy
    obtain ⟨_, h1⟩ := (mem_cls l _ _ x).1 hx
    obtain ⟨_, h2⟩ := (mem_cls l _ _ y).1 hy
    have := hall a ha
    have := hall b hb
    exact pre_lt (i := i + 1) (by rw [h1, h2]; omega)
  · rw [List.mem_flatMap]
    constructor
    · intro hx
      obtain ⟨h1, h2⟩ := (mem_cls l i p x).1 hx
      refine ⟨(dig i x : Nat), (mem_digits l i p _).2 ⟨x, hx, rfl⟩, (mem_cls l _ _ x).2 ⟨h1, ?_⟩⟩
      rw [pre_succ i x hi, h2]; simp
    · rintro ⟨d, hd, hx⟩
      obtain ⟨h1, h2⟩ := (mem_cls l _ _ x).1 hx
      obtain ⟨y, hy, e⟩ := (mem_digits l i p d).1 hd
      obtain ⟨h3, h4⟩ := (mem_cls l i p y).1 hy
      refine (mem_cls l i p x).2 ⟨h1, ?_⟩
      rw [pre_succ i x hi] at h2
      have := dig_lt i x
      have := dig_lt i y
      omega
theorem cls_leaf {l : List Nat} (h : Up l) {q : Nat} (hq : q ∈ l) : cls l 11 q = [q] := by
  refine up_ext (up_cls h 11 q) (by simp [Up]) (fun x => ?_)
  rw [mem_cls, pre_key, List.mem_singleton]
  exact ⟨fun h => h.2, fun e => ⟨e ▸ hq, e⟩⟩
theorem cls_ten {l : List Nat} (h : Up l) (p : Nat) : cls l 10 p = (listW (bitsC l 10 p)).map (fun d => p * 64 + d.toNat) := by
  rw [cls_concat h 10 p (Nat.le_refl _)]
  have : ∀ D : List Int, (∀ d, d ∈ D → d ∈ listW (bitsC l 10 p)) → D.flatMap (fun d => cls l (10 + 1) (p * 64 + d.toNat)) = D.map (fun d => p * 64 + d.toNat) := by
    intro D
    induction D with
    | nil => intro _; rfl
    | cons a r ih =>
      intro hD
      rw [List.flatMap_cons, List.map_cons, ih (fun d hd => hD d (List.mem_cons_of_mem _ hd))]
      obtain ⟨y, hy, e⟩ := (mem_digits l 10 p a).1 (hD a List.mem_cons_self)
      obtain ⟨h3, h4⟩ := (mem_cls l 10 p y).1 hy
      have hk : p * 64 + a.toNat = y := by
        have := pre_succ 10 y (Nat.le_refl _)
        rw [pre_key, h4] at this
        omega
      rw [hk, show (10 : Nat) + 1 = 11 from rfl, cls_leaf h h3]; rfl
  exact this _ (fun d hd => hd)

/-! ### how many are below -/
def cntLt (l : List Nat) (k : Nat) : Nat := (l.filter (fun x => decide (x < k))).length
/-- How many lie below the first j children. -/
def sumK (l : List Nat) (i p j : Nat) : Nat := (((listW (bitsC l i p)).take j).map (fun d => (cls l (i + 1) (p * 64 + d.toNat)).length)).sum
theorem sumK_succ (l : List Nat) (i p j : Nat) (h : j < (listW (bitsC l i p)).length) : sumK l i p (j + 1) = sumK l i p j + (cls l (i + 1) (p * 64 + ((listW (bitsC l i p))[j]).toNat)).length := by
  unfold sumK
  rw [List.take_succ_eq_append_getElem h, List.map_append, List.sum_append]; simp
theorem sum_flat {α β : Type} (D : List α) (f : α → List β) : (D.map (fun d => (f d).length)).sum = (D.flatMap f).length := by
  induction D with
  | nil => rfl
  | cons a r ih => rw [List.map_cons, List.sum_cons, List.flatMap_cons, List.length_append, ih]
theorem flat_take {α β : Type} (D : List α) (f : α → List β) (j : Nat) : (D.flatMap f) = (D.take j).flatMap f ++ (D.drop j).flatMap f := by
  rw [← List.flatMap_append, List.take_append_drop]
theorem sumK_le {l : List Nat} (h : Up l) (i p j : Nat) (hi : i ≤ 10) : sumK l i p j ≤ (cls l i p).length := by
  unfold sumK
  rw [sum_flat, cls_concat h i p hi, flat_take (listW (bitsC l i p)) _ j, List.length_append]
  omega
theorem sumK_all {l : List Nat} (h : Up l) (i p j : Nat) (hi : i ≤ 10) (hj : (listW (bitsC l i p)).length ≤ j) : sumK l i p j = (cls l i p).length := by
  unfold sumK
  rw [sum_flat, List.take_of_length_le hj, ← cls_concat h i p hi]
theorem cnt_empty (k : Nat) : cntLt [] k = 0 := rfl
/-- Below a node: what lies below the children ahead, and what lies below the child on the way. -/
theorem cnt_level {l : List Nat} (h : Up l) (i k : Nat) (hi : i ≤ 10) :
    cntLt (cls l i (pre i k)) k = sumK l i (pre i k) (rankL (listW (bitsC l i (pre i k))) (dig i k : Nat)) + cntLt (cls l (i + 1) (pre (i + 1) k)) k := by
  have hd := dig_lt i k
  obtain ⟨D, hD⟩ : ∃ D, D = listW (bitsC l i (pre i k)) := ⟨_, rfl⟩
  have hs : D.Pairwise (· < ·) := by rw [hD]; exact listW_sorted _
  obtain ⟨h1, h2⟩ := rank_split hs (dig i k : Nat)
  have hall : ∀ d, d ∈ D → 0 ≤ d ∧ d < 64 := fun d hd => by rw [hD] at hd; have := (mem_listW _ d).1 hd; omega
  have hlow : ∀ E : List Int, (∀ d, d ∈ E → 0 ≤ d ∧ d < (dig i k : Nat)) → (E.flatMap (fun d => cls l (i + 1) (pre i k * 64 + d.toNat))).filter (fun x => decide (x < k)) = E.flatMap (fun d => cls l (i + 1) (pre i k * 64 + d.toNat)) := by
    intro E hE
    apply List.filter_eq_self.2
    intro x hx
    obtain ⟨d, hd, hx⟩ := List.mem_flatMap.1 hx
    obtain ⟨_, h3⟩ := (mem_cls l _ _ x).1 hx
    have := hE d hd
    simp only [decide_eq_true_iff]
    exact pre_lt (i := i + 1) (by rw [h3, pre_succ i k hi]; omega)
  have hup : ∀ E : List Int, (∀ d, d ∈ E → 0 ≤ d ∧ ((dig i k : Nat) : Int) < d) → (E.flatMap (fun d => cls l (i + 1) (pre i k * 64 + d.toNat))).filter (fun x => decide (x < k)) = [] := by
    intro E hE
    apply List.filter_eq_nil_iff.2
    intro x hx
    obtain ⟨d, hd, hx⟩ := List.mem_flatMap.1 hx
    obtain ⟨_, h3⟩ := (mem_cls l _ _ x).1 hx
    have := hE d hd
    have := pre_lt (i := i + 1) (x := k) (y := x) (by rw [h3, pre_succ i k hi]; omega)
    simp; omega
  unfold cntLt sumK
  rw [cls_concat h i (pre i k) hi, ← hD, flat_take D _ (rankL D (dig i k : Nat)), List.filter_append, List.length_append, sum_flat]
  rw [hlow (D.take (rankL D (dig i k : Nat))) (fun d hd => by rw [h1] at hd; obtain ⟨hd1, hd2⟩ := List.mem_filter.1 hd; have := hall d hd1; simp at hd2; omega)]
  congr 1
  rw [h2]
  by_cases hm : ((dig i k : Nat) : Int) ∈ D
  · have hge : D.filter (fun x => decide (((dig i k : Nat) : Int) ≤ x)) = ((dig i k : Nat) : Int) :: D.filter (fun x => decide (((dig i k : Nat) : Int) < x)) := by
      refine sorted_ext (hs.filter _) (List.pairwise_cons.2 ⟨fun y hy => by simpa using (List.mem_filter.1 hy).2, hs.filter _⟩) (fun x => ?_)
      simp only [List.mem_cons, List.mem_filter, decide_eq_true_iff]
      constructor
      · rintro ⟨h3, h4⟩
        by_cases e : x = (dig i k : Nat)
        · exact .inl e
        · exact .inr ⟨h3, by omega⟩
      · rintro (rfl | ⟨h3, h4⟩)
        · exact ⟨hm, Int.le_refl _⟩
        · exact ⟨h3, by omega⟩
    rw [hge, List.flatMap_cons, List.filter_append, hup _ (fun d hd => by obtain ⟨hd1, hd2⟩ := List.mem_filter.1 hd; have := hall d hd1; simp at hd2; omega), List.append_nil]
    rw [pre_succ i k hi]; simp
  · have hge : D.filter (fun x => decide (((dig i k : Nat) : Int) ≤ x)) = D.filter (fun x => decide (((dig i k : Nat) : Int) < x)) := by
      apply List.filter_congr
      intro x hx
      have : x ≠ (dig i k : Nat) := fun e => hm (e ▸ hx)
      apply decide_eq_decide.2; omega
    rw [hge, hup _ (fun d hd => by obtain ⟨hd1, hd2⟩ := List.mem_filter.1 hd; have := hall d hd1; simp at hd2; omega)]
    have : cls l (i + 1) (pre (i + 1) k) = [] := by
      cases hc : cls l (i + 1) (pre (i + 1) k) with
      | nil => rfl
      | cons x r =>
        exfalso; apply hm
        have hx : x ∈ cls l (i + 1) (pre (i + 1) k) := by rw [hc]; exact List.mem_cons_self
        obtain ⟨h3, h4⟩ := (mem_cls l _ _ x).1 hx
        obtain ⟨h5, h6⟩ := pre_up hi h4
        rw [hD]
        exact (mem_digits l i _ _).2 ⟨x, (mem_cls l i _ x).2 ⟨h3, h5⟩, by rw [h6]⟩
    rw [this]; rfl
theorem cnt_root {l : List Nat} (hb : ∀ x, x ∈ l → x < 18446744073709551616) {k : Nat} (hk : k < 18446744073709551616) : cntLt (cls l 0 (pre 0 k)) k = cntLt l k := by
  rw [pre_zero hk, cls_root hb]
theorem cnt_end {l : List Nat} (h : Up l) (k : Nat) : cntLt (cls l 10 (pre 10 k)) k = rankL (listW (bitsC l 10 (pre 10 k))) (dig 10 k : Nat) := by
  have hk : k = pre 10 k * 64 + dig 10 k := by have := pre_succ 10 k (Nat.le_refl _); rwa [pre_key] at this
  rw [cls_ten h]
  unfold cntLt rankL
  rw [List.filter_map, List.length_map]
  congr 1
  apply List.filter_congr
  intro d hd
  have := (mem_listW _ d).1 hd
  simp only [Function.comp]
  apply decide_eq_decide.2
  omega
/-- The k-th below a node lies below one child. -/
theorem nth_level {l : List Nat} (h : Up l) (i p j n : Nat) (hi : i ≤ 10) (hj : j < (listW (bitsC l i p)).length) (h1 : sumK l i p j ≤ n) (h2 : n < sumK l i p (j + 1)) :
    (cls l i p)[n]? = (cls l (i + 1) (p * 64 + ((listW (bitsC l i p))[j]).toNat))[n - sumK l i p j]? := by
  rw [sumK_succ l i p j hj] at h2
  have e : sumK l i p j = (((listW (bitsC l i p)).take j).flatMap (fun d => cls l (i + 1) (p * 64 + d.toNat))).length := by unfold sumK; rw [sum_flat]
  rw [cls_concat h i p hi, flat_take (listW (bitsC l i p)) _ j, List.drop_eq_getElem_cons hj, List.flatMap_cons]
  rw [List.getElem?_append_right (by omega), List.getElem?_append_left (by omega), e]

end Go.Proofs.YtnhdcefoigmjpaaDoor

/-
  Plain facts for the trie: the next and the last key from anywhere; how many beginnings there are; the document's list.
-/
namespace Go.Proofs.YtnhdcefoigmjpaaDoor
set_option linter.unusedVariables false
set_option linter.unusedSimpArgs false

/-! ### the next one, the last one -/
def IsNxt (l : List Nat) (k m : Nat) : Prop := m ∈ l ∧ k ≤ m ∧ ∀ x, x ∈ l → k ≤ x → m ≤ x
def IsPrv (l : List Nat) (k m : Nat) : Prop := m ∈ l ∧ m ≤ k ∧ ∀ x, x ∈ l → x ≤ k → x ≤ m
theorem nxt_exists {l : List Nat} (h : Up l) {k x : Nat} (hx : x ∈ l) (hk : k ≤ x) : ∃ m, IsNxt l k m := by
  have hne : l.filter (fun x => decide (k ≤ x)) ≠ [] := by
    intro e
    have : x ∈ l.filter (fun x => decide (k ≤ x)) := by simp [hx, hk]
    rw [e] at this; cases this
  refine ⟨(l.filter (fun x => decide (k ≤ x))).headD 0, ?_⟩
  have hm := List.mem_filter.1 (head_mem hne 0)
  refine ⟨hm.1, by simpa only [decide_eq_true_iff] using hm.2, fun y hy hky => ?_⟩
  exact head_le (up_filter h _) 0 (by simp [hy, hky])
theorem prv_exists {l : List Nat} (h : Up l) {k x : Nat} (hx : x ∈ l) (hk : x ≤ k) : ∃ m, IsPrv l k m := by
  have hne : l.filter (fun x => decide (x ≤ k)) ≠ [] := by
    intro e
    have : x ∈ l.filter (fun x => decide (x ≤ k)) := by simp [hx, hk]
    rw [e] at this; cases this
  refine ⟨(l.filter (fun x => decide (x ≤ k))).getLastD 0, ?_⟩
  have hm := last_mem hne 0
  have hm2 := List.mem_filter.1 hm
  refine ⟨hm2.1, by simpa using hm2.2, fun y hy hky => ?_⟩
  exact last_ge (up_filter h _) 0 (by simp [hy, hky])
theorem nxt_in {l : List Nat} (h : Up l) {i k m : Nat} (hne : cls l i (pre i k) ≠ []) (hk : k ≤ (cls l i (pre i k)).getLastD 0) (hm : IsNxt l k m) : m ∈ cls l i (pre i k) := by
  obtain ⟨h1, h2⟩ := (mem_cls l i _ _).1 (last_mem hne 0)
  have h3 := hm.2.2 _ h1 hk
  have a := pre_mono i hm.2.1
  have b := pre_mono i h3
  exact (mem_cls l i _ m).2 ⟨hm.1, by omega⟩
theorem prv_in {l : List Nat} (h : Up l) {i k m : Nat} (hne : cls l i (pre i k) ≠ []) (hk : (cls l i (pre i k)).headD 0 ≤ k) (hm : IsPrv l k m) : m ∈ cls l i (pre i k) := by
  obtain ⟨h1, h2⟩ := (mem_cls l i _ _).1 (head_mem hne 0)
  have h3 := hm.2.2 _ h1 hk
  have a := pre_mono i hm.2.1
  have b := pre_mono i h3
  exact (mem_cls l i _ m).2 ⟨hm.1, by omega⟩
theorem nxt_head {l : List Nat} (h : Up l) {i k : Nat} (hne : cls l i (pre i k) ≠ []) (hk : k ≤ (cls l i (pre i k)).headD 0) : IsNxt l k ((cls l i (pre i k)).headD 0) := by
  obtain ⟨h1, h2⟩ := (mem_cls l i _ _).1 (head_mem hne 0)
  refine ⟨h1, hk, fun x hx hkx => ?_⟩
  rcases Nat.le_total ((cls l i (pre i k)).headD 0) x with h3 | h3
  · exact h3
  · exact head_le (up_cls h i _) 0 ((mem_cls l i _ x).2 ⟨hx, by
      have a := pre_mono i hkx
      have b := pre_mono i h3
      omega⟩)
theorem prv_last {l : List Nat} (h : Up l) {i k : Nat} (hne : cls l i (pre i k) ≠ []) (hk : (cls l i (pre i k)).getLastD 0 ≤ k) : IsPrv l k ((cls l i (pre i k)).getLastD 0) := by
  obtain ⟨h1, h2⟩ := (mem_cls l i _ _).1 (last_mem hne 0)
  refine ⟨h1, hk, fun x hx hkx => ?_⟩
  rcases Nat.le_total x ((cls l i (pre i k)).getLastD 0) with h3 | h3
  · exact h3
  · exact last_ge (up_cls h i _) 0 ((mem_cls l i _ x).2 ⟨hx, by
      have a := pre_mono i hkx
      have b := pre_mono i h3
      omega⟩)
theorem prev_is {l : List Int} (hl : l.Pairwise (· < ·)) {n r : Int} (h1 : r ∈ l) (h2 : r ≤ n) (h3 : ∀ y, y ∈ l → y ≤ n → y ≤ r) : prevL l n = r := by
  rw [prevL_last]
  have hm : r ∈ l.filter (fun x => decide (x ≤ n)) := by simp [h1, h2]
  have hs := hl.filter (fun x => decide (x ≤ n))
  have hall : ∀ y, y ∈ l.filter (fun x => decide (x ≤ n)) → y ≤ r := fun y hy => by
    obtain ⟨h4, h5⟩ := List.mem_filter.1 hy
    exact h3 y h4 (by simpa using h5)
  generalize l.filter (fun x => decide (x ≤ n)) = f at hm hs hall
  rcases List.eq_nil_or_concat f with e | ⟨s, a, e⟩
  · subst e; cases hm
  · have e : f = s ++ [a] := by simpa using e
    subst e
    rw [List.getLastD_eq_getLast?, List.getLast?_append, List.getLast?_singleton]
    show a = r
    have ha := hall a (by simp)
    rcases List.mem_append.1 hm with h | h
    · have := (List.pairwise_append.1 hs).2.2 r h a (by simp); omega
    · exact (List.mem_singleton.1 h).symm
/-- Beyond the child on the way. -/
theorem nxt_beyond {l : List Nat} (h : Up l) {i k : Nat} (hi : i ≤ 10) (hne : cls l i (pre i k) ≠ []) (hk : k ≤ (cls l i (pre i k)).getLastD 0)
    (hc : cls l (i + 1) (pre (i + 1) k) = [] ∨ (cls l (i + 1) (pre (i + 1) k)).getLastD 0 < k) :
    ∃ m, IsNxt l k m ∧ m ∈ cls l i (pre i k) ∧ nextL (listW (bitsC l i (pre i k))) ((dig i k : Int) + 1) = (dig i m : Nat) ∧ (cls l (i + 1) (pre (i + 1) m)).headD 0 = m ∧ pre (i + 1) m = pre i k * 64 + dig i m := by
  obtain ⟨h1, h2⟩ := (mem_cls l i _ _).1 (last_mem hne 0)
  obtain ⟨m, hm⟩ := nxt_exists h h1 hk
  have hmc := nxt_in h hne hk hm
  obtain ⟨hm1, hm2⟩ := (mem_cls l i _ m).1 hmc
  have hp := pre_succ i m hi
  have hpk := pre_succ i k hi
  rw [hm2] at hp
  have hge := pre_mono (i + 1) hm.2.1
  have hdk := dig_lt i k
  have hdm := dig_lt i m
  have hgt : dig i k < dig i m := by
    rcases Nat.lt_or_ge (dig i k) (dig i m) with h3 | h3
    · exact h3
    · exfalso
      have e : pre (i + 1) m = pre (i + 1) k := by omega
      have hin : m ∈ cls l (i + 1) (pre (i + 1) k) := (mem_cls l _ _ m).2 ⟨hm1, e⟩
      rcases hc with hc | hc
      · rw [hc] at hin; cases hin
      · have := last_ge (up_cls h _ _) 0 hin
        have := hm.2.1
        omega
  have key : ∀ z, z ∈ l → pre (i + 1) k < pre (i + 1) z → m ≤ z := fun z hz hlt => hm.2.2 z hz (Nat.le_of_lt (pre_lt hlt))
  refine ⟨m, hm, hmc, ?_, ?_, hp⟩
  · refine next_is (listW_sorted _) ((mem_digits l i _ _).2 ⟨m, hmc, rfl⟩) (by omega) (fun y hy hy2 => ?_)
    obtain ⟨z, hz, e⟩ := (mem_digits l i _ y).1 hy
    obtain ⟨hz1, hz2⟩ := (mem_cls l i _ z).1 hz
    have hpz := pre_succ i z hi
    have := pre_mono (i + 1) (key z hz1 (by rw [hpz, hz2, hpk]; omega))
    rw [hp, hpz, hz2] at this
    omega
  · refine head_min (up_cls h _ _) ((mem_cls l _ _ m).2 ⟨hm1, rfl⟩) (fun x hx => ?_) 0
    obtain ⟨hx1, hx2⟩ := (mem_cls l _ _ x).1 hx
    exact key x hx1 (by rw [hx2, hp, hpk]; omega)
theorem prv_beyond {l : List Nat} (h : Up l) {i k : Nat} (hi : i ≤ 10) (hne : cls l i (pre i k) ≠ []) (hk : (cls l i (pre i k)).headD 0 ≤ k)
    (hc : cls l (i + 1) (pre (i + 1) k) = [] ∨ k < (cls l (i + 1) (pre (i + 1) k)).headD 0) :
    ∃ m, IsPrv l k m ∧ m ∈ cls l i (pre i k) ∧ prevL (listW (bitsC l i (pre i k))) ((dig i k : Int) - 1) = (dig i m : Nat) ∧ (cls l (i + 1) (pre (i + 1) m)).getLastD 0 = m ∧ pre (i + 1) m = pre i k * 64 + dig i m := by
  obtain ⟨h1, h2⟩ := (mem_cls l i _ _).1 (head_mem hne 0)
  obtain ⟨m, hm⟩ := prv_exists h h1 hk
  have hmc := prv_in h hne hk hm
  obtain ⟨hm1, hm2⟩ := (mem_cls l i _ m).1 hmc
  have hp := pre_succ i m hi
  have hpk := pre_succ i k hi
  rw [hm2] at hp
  have hge := pre_mono (i + 1) hm.2.1
  have hdk := dig_lt i k
  have hdm := dig_lt i m
  have hgt : dig i m < dig i k := by
    rcases Nat.lt_or_ge (dig i m) (dig i k) with h3 | h3
    · exact h3
    · exfalso
      have e : pre (i + 1) m = pre (i + 1) k := by omega
      have hin : m ∈ cls l (i + 1) (pre (i + 1) k) := (mem_cls l _ _ m).2 ⟨hm1, e⟩
      rcases hc with hc | hc
      · rw [hc] at hin; cases hin
      · have := head_le (up_cls h _ _) 0 hin
        have := hm.2.1
        omega
  have key : ∀ z, z ∈ l → pre (i + 1) z < pre (i + 1) k → z ≤ m := fun z hz hlt => hm.2.2 z hz (Nat.le_of_lt (pre_lt hlt))
  refine ⟨m, hm, hmc, ?_, ?_, hp⟩
  · refine prev_is (listW_sorted _) ((mem_digits l i _ _).2 ⟨m, hmc, rfl⟩) (by omega) (fun y hy hy2 => ?_)
    obtain ⟨z, hz, e⟩ := (mem_digits l i _ y).1 hy
    obtain ⟨hz1, hz2⟩ := (mem_cls l i _ z).1 hz
    have hpz := pre_succ i z hi
    have := pre_mono (i + 1) (key z hz1 (by rw [hpz, hz2, hpk]; omega))
    rw [hp, hpz, hz2] at this
    omega
  · refine last_max (up_cls h _ _) ((mem_cls l _ _ m).2 ⟨hm1, rfl⟩) (fun x hx => ?_) 0
    obtain ⟨hx1, hx2⟩ := (mem_cls l _ _ x).1 hx
    exact key x hx1 (by rw [hx2, hp, hpk]; omega)
theorem key_ten (k : Nat) : k = pre 10 k * 64 + dig 10 k := by have := pre_succ 10 k (Nat.le_refl _); rwa [pre_key] at this
/-- In the last node. -/
theorem nxt_ten {l : List Nat} (h : Up l) {k : Nat} (hne : cls l 10 (pre 10 k) ≠ []) (hk : k ≤ (cls l 10 (pre 10 k)).getLastD 0) :
    ∃ m, IsNxt l k m ∧ nextL (listW (bitsC l 10 (pre 10 k))) (dig 10 k : Nat) = (dig 10 m : Nat) ∧ m = pre 10 k * 64 + dig 10 m := by
  obtain ⟨h1, h2⟩ := (mem_cls l 10 _ _).1 (last_mem hne 0)
  obtain ⟨m, hm⟩ := nxt_exists h h1 hk
  have hmc := nxt_in h hne hk hm
  obtain ⟨hm1, hm2⟩ := (mem_cls l 10 _ m).1 hmc
  have hme := key_ten m
  have hke := key_ten k
  have hkm := hm.2.1
  rw [hm2] at hme
  refine ⟨m, hm, ?_, hme⟩
  refine next_is (listW_sorted _) ((mem_digits l 10 _ _).2 ⟨m, hmc, rfl⟩) (by omega) (fun y hy hy2 => ?_)
  obtain ⟨z, hz, e⟩ := (mem_digits l 10 _ y).1 hy
  obtain ⟨hz1, hz2⟩ := (mem_cls l 10 _ z).1 hz
  have hze := key_ten z
  rw [hz2] at hze
  have := hm.2.2 z hz1 (by omega)
  omega
theorem prv_ten {l : List Nat} (h : Up l) {k : Nat} (hne : cls l 10 (pre 10 k) ≠ []) (hk : (cls l 10 (pre 10 k)).headD 0 ≤ k) :
    ∃ m, IsPrv l k m ∧ prevL (listW (bitsC l 10 (pre 10 k))) (dig 10 k : Nat) = (dig 10 m : Nat) ∧ m = pre 10 k * 64 + dig 10 m := by
  obtain ⟨h1, h2⟩ := (mem_cls l 10 _ _).1 (head_mem hne 0)
  obtain ⟨m, hm⟩ := prv_exists h h1 hk
  have hmc := prv_in h hne hk hm
  obtain ⟨hm1, hm2⟩ := (mem_cls l 10 _ m).1 hmc
  have hme := key_ten m
  have hke := key_ten k
  have hkm := hm.2.1
  rw [hm2] at hme
  refine ⟨m, hm, ?_, hme⟩
  refine prev_is (listW_sorted _) ((mem_digits l 10 _ _).2 ⟨m, hmc, rfl⟩) (by omega) (fun y hy hy2 => ?_)
  obtain ⟨z, hz, e⟩ := (mem_digits l 10 _ y).1 hy
  obtain ⟨hz1, hz2⟩ := (mem_cls l 10 _ z).1 hz
  have hze := key_ten z
  rw [hz2] at hze
  have := hm.2.2 z hz1 (by omega)
  omega

/-! ### how many beginnings there are -/
def kindsF (f : Nat → Nat) : Nat → List Nat → Nat
  | _, [] => 0
  | x, y :: r => (if f y = f x then 0 else 1) + kindsF f y r
def kindsN (f : Nat → Nat) : List Nat → Nat
  | [] => 0
  | x :: r => 1 + kindsF f x r
theorem kindsF_ins {f : Nat → Nat} (hf : ∀ x y, x ≤ y → f x ≤ f y) (k : Nat) : ∀ (l : List Nat) (x : Nat), Up (x :: l) → k ∉ l → x < k →
    kindsF f x (insS l k) = kindsF f x l + if f x = f k ∨ ∃ y, y ∈ l ∧ f y = f k then 0 else 1 := by
  intro l
  induction l with
  | nil =>
    intro x _ _ hx
    show (if f k = f x then 0 else 1) + 0 = 0 + _
    by_cases e : f x = f k
    · rw [if_pos e.symm, if_pos (.inl e)]
    · rw [if_neg (fun h => e h.symm), if_neg (by rintro (h | ⟨y, hy, _⟩); exact e h; cases hy)]
  | cons y r ih =>
    intro x hu hk hx
    obtain ⟨hxy, hr⟩ := List.pairwise_cons.1 hu
    have hxy' := hxy y List.mem_cons_self
    unfold insS
    by_cases hky : k < y
    · rw [if_pos hky]
      show (if f k = f x then 0 else 1) + ((if f y = f k then 0 else 1) + kindsF f y r) = ((if f y = f x then 0 else 1) + kindsF f y r) + _
      have a := hf x k (by omega)
      have b := hf k y (by omega)
      have hex : (∃ z, z ∈ y :: r ∧ f z = f k) ↔ f y = f k := by
        constructor
        · rintro ⟨z, hz, e⟩
          rcases List.mem_cons.1 hz with rfl | hz
          · exact e
          · have := hf y z (Nat.le_of_lt ((List.pairwise_cons.1 hr).1 z hz)); omega
        · intro e; exact ⟨y, List.mem_cons_self, e⟩
      simp only [hex]
      by_cases e1 : f x = f k <;> by_cases e2 : f y = f k
      · rw [if_pos e1.symm, if_pos e2, if_pos (show f y = f x by omega), if_pos (.inl e1)]; omega
      · rw [if_pos e1.symm, if_neg e2, if_neg (show ¬ f y = f x by omega), if_pos (.inl e1)]; omega
      · rw [if_neg (show ¬ f k = f x by omega), if_pos e2, if_neg (show ¬ f y = f x by omega), if_pos (.inr e2)]; omega
      · rw [if_neg (show ¬ f k = f x by omega), if_neg e2, if_neg (show ¬ f y = f x by omega), if_neg (by rintro (h | h) <;> omega)]; omega
    · have hne : y ≠ k := fun e => hk (by rw [e]; exact List.mem_cons_self)
      rw [if_neg hky]
      show (if f y = f x then 0 else 1) + kindsF f y (insS r k) = ((if f y = f x then 0 else 1) + kindsF f y r) + _
      rw [ih y hr (fun h => hk (List.mem_cons_of_mem _ h)) (by omega)]
      have hiff : (f y = f k ∨ ∃ z, z ∈ r ∧ f z = f k) ↔ (f x = f k ∨ ∃ z, z ∈ y :: r ∧ f z = f k) := by
        constructor
        · rintro (h | ⟨z, hz, e⟩)
          · exact .inr ⟨y, List.mem_cons_self, h⟩
          · exact .inr ⟨z, List.mem_cons_of_mem _ hz, e⟩
        · rintro (h | ⟨z, hz, e⟩)
          · have a := hf x y (by omega)
            have b := hf y k (by omega)
            exact .inl (by omega)
          · rcases List.mem_cons.1 hz with rfl | hz
            · exact .inl e
            · exact .inr ⟨z, hz, e⟩
      simp only [hiff]
      omega
theorem kinds_ins {f : Nat → Nat} (hf : ∀ x y, x ≤ y → f x ≤ f y) {l : List Nat} (h : Up l) {k : Nat} (hk : k ∉ l) :
    kindsN f (insS l k) = kindsN f l + if ∃ y, y ∈ l ∧ f y = f k then 0 else 1 := by
  cases l with
  | nil => simp [insS, kindsN, kindsF]
  | cons x r =>
    obtain ⟨hx, hr⟩ := List.pairwise_cons.1 h
    unfold insS
    by_cases hkx : k < x
    · rw [if_pos hkx]
      show 1 + ((if f x = f k then 0 else 1) + kindsF f x r) = 1 + kindsF f x r + _
      have hex : (∃ z, z ∈ x :: r ∧ f z = f k) ↔ f x = f k := by
        constructor
        · rintro ⟨z, hz, e⟩
          rcases List.mem_cons.1 hz with rfl | hz
          · exact e
          · have a := hf k x (by omega)
            have b := hf x z (Nat.le_of_lt (hx z hz))
            omega
        · intro e; exact ⟨x, List.mem_cons_self, e⟩
      simp only [hex]; omega
    · have hne : x ≠ k := fun e => hk (by rw [e]; exact List.mem_cons_self)
      rw [if_neg hkx]
      show 1 + kindsF f x (insS r k) = 1 + kindsF f x r + _
      rw [kindsF_ins hf k r x h (fun hm => hk (List.mem_cons_of_mem _ hm)) (by omega)]
      have hiff : (f x = f k ∨ ∃ z, z ∈ r ∧ f z = f k) ↔ (∃ z, z ∈ x :: r ∧ f z = f k) := by
        constructor
        · rintro (h | ⟨z, hz, e⟩)
          · exact ⟨x, List.mem_cons_self, h⟩
          · exact ⟨z, List.mem_cons_of_mem _ hz, e⟩
        · rintro ⟨z, hz, e⟩
          rcases List.mem_cons.1 hz with rfl | hz
          · exact .inl e
          · exact .inr ⟨z, hz, e⟩
      simp only [hiff]; omega
/-- What a trie of those keys uses. -/
def used (l : List Nat) : Nat := ((List.range 11).map (fun i => kindsN (pre i) l)).sum
theorem used_nil : used [] = 0 := by decide
/-- How many levels of a key's path there are. -/
theorem depth_exists (l : List Nat) (k : Nat) : ∃ m, m ≤ 11 ∧ ∀ i, i < 11 → ((∃ x, x ∈ l ∧ pre i x = pre i k) ↔ i < m) := by
  have down : ∀ i j, i ≤ j → j ≤ 11 → (∃ x, x ∈ l ∧ pre j x = pre j k) → ∃ x, x ∈ l ∧ pre i x = pre i k := fun i j hij hj ⟨x, hx, e⟩ => ⟨x, hx, pre_same hij hj e⟩
  have : ∀ n, n ≤ 11 → ∃ m, m ≤ n ∧ ∀ i, i < n → ((∃ x, x ∈ l ∧ pre i x = pre i k) ↔ i < m) := by
    intro n
    induction n with
    | zero => intro _; exact ⟨0, Nat.le_refl _, fun i hi => absurd hi (by omega)⟩
    | succ n ih =>
      intro hn
      obtain ⟨m, hm, hmi⟩ := ih (by omega)
      by_cases hx : ∃ x, x ∈ l ∧ pre n x = pre n k
      · refine ⟨n + 1, Nat.le_refl _, fun i hi => ⟨fun _ => hi, fun _ => down i n (by omega) (by omega) hx⟩⟩
      · refine ⟨m, by omega, fun i hi => ?_⟩
        by_cases e : i = n
        · subst e
          exact ⟨fun h => absurd h hx, fun h => by omega⟩
        · exact hmi i (by omega)
  exact this 11 (Nat.le_refl _)
theorem sum_if (n m : Nat) (hm : m ≤ n) (g : Nat → Nat) : ((List.range n).map (fun i => g i + if i < m then 0 else 1)).sum = ((List.range n).map g).sum + (n - m) := by
  induction n with
  | zero => rw [show m = 0 by omega]; rfl
  | succ n ih =>
    rw [List.range_succ, List.map_append, List.map_append, List.sum_append, List.sum_append]
    simp only [List.map_cons, List.map_nil, List.sum_cons, List.sum_nil, Nat.add_zero]
    by_cases e : m = n + 1
    · have hall : (List.range n).map (fun i => g i + if i < m then 0 else 1) = (List.range n).map g := List.map_congr_left (fun i hi => by
        rw [if_pos (by have := List.mem_range.1 hi; omega)]; omega)
      rw [hall, if_pos (by omega)]; omega
    · rw [ih (by omega), if_neg (by omega)]; omega
theorem used_ins {l : List Nat} (h : Up l) {k : Nat} (hk : k ∉ l) {m : Nat} (hm : m ≤ 11) (hmi : ∀ i, i < 11 → ((∃ x, x ∈ l ∧ pre i x = pre i k) ↔ i < m)) : used (insS l k) = used l + (11 - m) := by
  unfold used
  rw [← sum_if 11 m hm]
  congr 1
  apply List.map_congr_left
  intro i hi
  have hi := List.mem_range.1 hi
  rw [kinds_ins (fun x y hxy => pre_mono i hxy) h hk]
  simp only [hmi i hi]

/-! ### the document's list -/
theorem cnt_cut {l : List Nat} (h : Up l) (k : Nat) : l.take (cntLt l k) = l.filter (fun x => decide (x < k)) ∧ l.drop (cntLt l k) = l.filter (fun x => decide (k ≤ x)) := by
  induction l with
  | nil => simp [cntLt]
  | cons x r ih =>
    obtain ⟨hx, hr⟩ := List.pairwise_cons.1 h
    obtain ⟨h1, h2⟩ := ih hr
    by_cases hlt : x < k
    · have e : cntLt (x :: r) k = cntLt r k + 1 := by simp [cntLt, hlt]
      rw [e, List.take_succ_cons, List.drop_succ_cons, h1, h2]
      simp [hlt, show ¬ k ≤ x by omega]
    · have e1 : (x :: r).filter (fun x => decide (x < k)) = [] := List.filter_eq_nil_iff.2 (fun y hy => by
        rcases List.mem_cons.1 hy with rfl | hy
        · simpa using hlt
        · have := hx y hy; simp; omega)
      have e2 : (x :: r).filter (fun x => decide (k ≤ x)) = x :: r := List.filter_eq_self.2 (fun y hy => by
        rcases List.mem_cons.1 hy with rfl | hy
        · simp; omega
        · have := hx y hy; simp; omega)
      have e : cntLt (x :: r) k = 0 := by unfold cntLt; rw [e1]; rfl
      rw [e, e1, e2]; exact ⟨rfl, rfl⟩
theorem cnt_le (l : List Nat) (k : Nat) : cntLt l k ≤ l.length := List.length_filter_le _ _
theorem nxt_get {l : List Nat} (h : Up l) {k m : Nat} (hm : IsNxt l k m) : l[cntLt l k]? = some m := by
  obtain ⟨_, h2⟩ := cnt_cut h k
  have hd : (l.drop (cntLt l k)).headD 0 = m := head_min (by rw [h2]; exact up_filter h _) (by rw [h2]; simp [hm.1, hm.2.1]) (fun x hx => by rw [h2] at hx; simp at hx; exact hm.2.2 x hx.1 hx.2) 0
  have hne : l.drop (cntLt l k) ≠ [] := by rw [h2]; intro e; have : m ∈ l.filter (fun x => decide (k ≤ x)) := by simp [hm.1, hm.2.1]
                                           rw [e] at this; cases this
  have : (l.drop (cntLt l k))[0]? = some m := by
    cases hc : l.drop (cntLt l k) with
    | nil => exact absurd hc hne
    | cons a r => rw [hc] at hd; show some a = some m; congr 1
  rwa [List.getElem?_drop, Nat.add_zero] at this
theorem nxt_get_none {l : List Nat} (h : Up l) {k : Nat} (hall : ∀ x, x ∈ l → x < k) : cntLt l k = l.length := by
  unfold cntLt; rw [List.filter_eq_self.2 (fun x hx => by simpa using hall x hx)]
theorem cnt_here {l : List Nat} (h : Up l) {k : Nat} (hk : k ∈ l) : l[cntLt l k]? = some k := nxt_get h ⟨hk, Nat.le_refl _, fun _ _ h => h⟩
theorem cnt_there {l : List Nat} (h : Up l) (k : Nat) : l[cntLt l k]? = some k ↔ k ∈ l := ⟨fun e => List.mem_of_getElem? e, cnt_here h⟩
theorem prv_get {l : List Nat} (h : Up l) {k m : Nat} (hm : IsPrv l k m) (hk : k ∉ l) : 0 < cntLt l k ∧ l[cntLt l k - 1]? = some m := by
  obtain ⟨h1, _⟩ := cnt_cut h k
  have hmk : m < k := by have := hm.2.1; have : m ≠ k := fun e => hk (e ▸ hm.1); omega
  have hin : m ∈ l.filter (fun x => decide (x < k)) := by simp [hm.1, hmk]
  have hpos : 0 < cntLt l k := by unfold cntLt; exact List.length_pos_of_mem hin
  refine ⟨hpos, ?_⟩
  have hlast : (l.take (cntLt l k)).getLastD 0 = m := last_max (by rw [h1]; exact up_filter h _) (by rw [h1]; exact hin) (fun x hx => by rw [h1] at hx; simp at hx; exact hm.2.2 x hx.1 (by omega)) 0
  have hlen : (l.take (cntLt l k)).length = cntLt l k := by rw [List.length_take]; have := cnt_le l k; omega
  rw [List.getLastD_eq_getLast?, List.getLast?_eq_getElem?, hlen, List.getElem?_take, if_pos (by omega)] at hlast
  have hlt : cntLt l k - 1 < l.length := by have := cnt_le l k; omega
  rw [List.getElem?_eq_getElem hlt] at hlast ⊢
  congr 1
theorem prv_get_none {l : List Nat} {k : Nat} (hall : ∀ x, x ∈ l → k < x) : cntLt l k = 0 := by
  unfold cntLt
  rw [List.filter_eq_nil_iff.2 (fun x hx => by have := hall x hx; simp; omega)]; rfl
theorem ins_cut {l : List Nat} (h : Up l) {k : Nat} (hk : k ∉ l) : insS l k = l.take (cntLt l k) ++ k :: l.drop (cntLt l k) := by
  obtain ⟨h1, h2⟩ := cnt_cut h k
  refine up_ext (up_insS h hk) ?_ (fun x => ?_)
  · rw [h1, h2]
    refine List.pairwise_append.2 ⟨h.filter _, List.pairwise_cons.2 ⟨fun y hy => ?_, h.filter _⟩, fun a ha b hb => ?_⟩
    · simp at hy
      have : y ≠ k := fun e => hk (e ▸ hy.1)
      omega
    · simp at ha hb
      rcases hb with rfl | hb
      · exact ha.2
      · omega
  · rw [mem_insS, h1, h2]
    simp only [List.mem_append, List.mem_cons, List.mem_filter, decide_eq_true_iff]
    constructor
    · rintro (rfl | h)
      · exact .inr (.inl rfl)
      · by_cases e : x < k
        · exact .inl ⟨h, e⟩
        · exact .inr (.inr ⟨h, by omega⟩)
    · rintro (h | rfl | h)
      · exact .inr h.1
      · exact .inl rfl
      · exact .inr h.1
theorem drop_cut {l : List Nat} (h : Up l) {k : Nat} (hk : k ∈ l) : dropS l k = l.take (cntLt l k) ++ l.drop (cntLt l k + 1) := by
  obtain ⟨h1, h2⟩ := cnt_cut h k
  have hat := cnt_here h hk
  have hlt : cntLt l k < l.length := by
    rcases Nat.lt_or_ge (cntLt l k) l.length with h | h
    · exact h
    · rw [List.getElem?_eq_none h] at hat; cases hat
  have e : l.drop (cntLt l k) = k :: l.drop (cntLt l k + 1) := by
    rw [List.drop_eq_getElem_cons hlt]
    rw [List.getElem?_eq_getElem hlt] at hat
    injection hat with hat
    rw [hat]
  have hs : Up (k :: l.drop (cntLt l k + 1)) := by rw [← e]; exact h.drop
  obtain ⟨hs1, hs2⟩ := List.pairwise_cons.1 hs
  refine up_ext (up_dropS h k) ?_ (fun x => ?_)
  · refine List.pairwise_append.2 ⟨h.take, hs2, fun a ha b hb => ?_⟩
    rw [h1] at ha
    simp at ha
    have := hs1 b hb
    omega
  · rw [mem_dropS, List.mem_append]
    have hx : x ∈ l ↔ x ∈ l.take (cntLt l k) ∨ x ∈ k :: l.drop (cntLt l k + 1) := by
      rw [← e, ← List.mem_append, List.take_append_drop]
    rw [hx, List.mem_cons]
    constructor
    · rintro ⟨h | h | h, hne⟩
      · exact .inl h
      · exact absurd h hne
      · exact .inr h
    · rintro (h | h)
      · refine ⟨.inl h, fun e => ?_⟩
        subst e; rw [h1] at h; simp at h
      · exact ⟨.inr (.inr h), fun e => by subst e; have := hs1 x h; omega⟩

end Go.Proofs.YtnhdcefoigmjpaaDoor

