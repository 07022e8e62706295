/-
  What the reference's Kinds, Trie and Add compute, in plain words; Add leaves the list handed in as it is.
-/
import Derived.Test.YtnhdcefoigmjpaaDoorTrH
import Derived.Test.YtnhdcefoigmjpaaDoorTrOwn2
namespace Go.Proofs.YtnhdcefoigmjpaaDoor
open Go.RowKit Go.Proofs.YtnhdcefoigmjpaaDoorW.PrintWords Go.Proofs.YtnhdcefoigmjpaaDoorW.PrintMore Go.Proofs.YtnhdcefoigmjpaaDoor.PTrieWalks
attribute [local go_sem] max2_int min2_int max_two min_two
set_option linter.unusedVariables false
set_option linter.unusedSimpArgs false

theorem wrap_id (x : Int) (h0 : 0 ≤ x) (h1 : x ≤ 4000000000) : wrap64 x = x := by unfold wrap64; omega
theorem wrap_nat (x : Int) (n : Nat) (h : x = n) (h1 : n ≤ 4000000000) : wrap64 x = (n : Nat) := by rw [h]; exact wrap_id _ (by omega) (by omega)
theorem wrap_pred (i : Nat) (h : 1 ≤ i) (h2 : i ≤ 1000000000) : wrap64 ((i : Int) - 1) = ((i - 1 : Nat) : Int) := wrap_nat _ _ (by omega) (by omega)
theorem wrap_succ (i : Nat) (h2 : i ≤ 1000000000) : wrap64 ((i : Int) + 1) = ((i + 1 : Nat) : Int) := wrap_nat _ _ (by omega) (by omega)
theorem kindsF_le (f : Nat → Nat) : ∀ (l : List Nat) (x : Nat), kindsF f x l ≤ l.length := by
  intro l
  induction l with
  | nil => intro x; exact Nat.le_refl _
  | cons y r ih => intro x; have := ih y; simp only [kindsF, List.length_cons]; split <;> omega
theorem kindsN_le (f : Nat → Nat) (l : List Nat) : kindsN f l ≤ l.length := by
  cases l with
  | nil => exact Nat.le_refl _
  | cons x r => have := kindsF_le f r x; simp only [kindsN, List.length_cons]; omega
/-- The bits of a beginning, and the beginning. -/
def Bts (bits : Nat) (f : Nat → Nat) : Prop := (bits = 0 ∧ ∀ x, f x = 0) ∨ (1 ≤ bits ∧ bits ≤ 64 ∧ ∀ x, f x = x / 2 ^ (64 - bits))
theorem shr_nat (y bits : Nat) (h1 : 1 ≤ bits) (h2 : bits ≤ 64) : shr .u64 (y : Int) (wrap64 (64 - (bits : Int))) = ((y / 2 ^ (64 - bits) : Nat) : Int) := by
  have e : wrap64 (64 - (bits : Int)) = ((64 - bits : Nat) : Int) := wrap_nat _ _ (by omega) (by omega)
  rw [e]
  unfold shr
  rw [Int.toNat_natCast, Nat.min_eq_left (by show 64 - bits ≤ 64; omega)]
  push_cast; rfl
set_option maxHeartbeats 1000000 in
theorem kinds_l0 {l : List Nat} (hlen : l.length ≤ 1000000) (f : Nat → Nat) (bits : Nat) (hb : Bts bits f) : ∀ (n i x c : Nat), l.length ≤ i + n → 1 ≤ i → l[i - 1]? = some x → c ≤ 1000000 + i →
    stepstoneref11_Kinds.l0 (n + 1) (keysI l) (bits : Nat) (c : Nat) (keysI l) (l.length : Nat) (i : Nat) = some ((c + kindsF f x (l.drop i) : Nat) : Int) := by
  have stop : ∀ n i x c : Nat, ¬ i < l.length → stepstoneref11_Kinds.l0 (n + 1) (keysI l) (bits : Nat) (c : Nat) (keysI l) (l.length : Nat) (i : Nat) = some ((c + kindsF f x (l.drop i) : Nat) : Int) := by
    intro n i x c hi
    unfold stepstoneref11_Kinds.l0
    rw [if_neg (by omega), List.drop_of_length_le (by omega)]
    rfl
  intro n
  induction n with
  | zero => intro i x c h1 h2 h3 h4; exact stop 0 i x c (by omega)
  | succ n ih =>
    intro i x c h1 h2 hx hc
    by_cases hi : i < l.length
    · have e1 : wrap64 ((i : Int) - 1) = ((i - 1 : Nat) : Int) := wrap_pred i (by omega) (by omega)
      have e2 : wrap64 ((i : Int) + 1) = ((i + 1 : Nat) : Int) := wrap_succ i (by omega)
      have e3 : wrap64 ((c : Int) + 1) = ((c + 1 : Nat) : Int) := wrap_succ c (by omega)
      obtain ⟨y, hy⟩ : ∃ y, l[i]? = some y := ⟨_, List.getElem?_eq_getElem hi⟩
      have hry := rd_keys l i y hy
      have hrx := rd_keys l (i - 1) x hx
      have hdr : l.drop i = y :: l.drop (i + 1) := by
        rw [List.drop_eq_getElem_cons hi]
        rw [List.getElem?_eq_getElem hi] at hy
        simp only [Option.some.injEq] at hy
        rw [hy]
      have hn1 := ih (i + 1) y c (by omega) (by omega) (by simpa using hy) (by omega)
      have hn2 := ih (i + 1) y (c + 1) (by omega) (by omega) (by simpa using hy) (by omega)
      unfold stepstoneref11_Kinds.l0
      rw [if_pos (by omega), if_pos (by omega), if_pos (by rw [keysI_len]; omega), if_neg (by omega), hdr]
      simp only [kindsF]
      rcases hb with ⟨rfl, hf⟩ | ⟨hb1, hb2, hf⟩
      · rw [if_neg (by omega), e2, hn1, hf y, hf x, if_pos rfl, Nat.zero_add]
      · have hw : 0 ≤ wrap64 (64 - (bits : Int)) := by rw [wrap_nat _ (64 - bits) (by omega) (by omega)]; omega
        rw [if_pos (by omega), if_pos hw, e1, if_pos (by omega), if_pos (by rw [keysI_len]; omega), hry, hrx, shr_nat y bits hb1 hb2, shr_nat x bits hb1 hb2, e2, e3]
        by_cases he : y / 2 ^ (64 - bits) = x / 2 ^ (64 - bits)
        · rw [if_pos (by rw [he]), hn1, hf y, hf x, if_pos he, Nat.zero_add]
        · rw [if_neg (by omega), hn2, hf y, hf x, if_neg he]
          congr 2; omega
    · exact stop (n + 1) i x c hi
theorem kinds_f {l : List Nat} (hlen : l.length ≤ 1000000) (f : Nat → Nat) (bits n : Nat) (hb : Bts bits f) (hn : l.length ≤ n) : stepstoneref11_Kinds.f (n + 1) (keysI l) (bits : Nat) = some ((kindsN f l : Nat) : Int) := by
  unfold stepstoneref11_Kinds.f
  rw [keysI_len]
  cases l with
  | nil =>
    unfold stepstoneref11_Kinds.l0
    rw [if_neg (by simp)]; rfl
  | cons x r =>
    obtain ⟨m, rfl⟩ : ∃ m, n = m + 1 := ⟨n - 1, by simp only [List.length_cons] at hn; omega⟩
    have h := kinds_l0 hlen f bits hb m 1 x 1 (by omega) (Nat.le_refl _) rfl (by omega)
    unfold stepstoneref11_Kinds.l0
    rw [if_pos (by simp only [List.length_cons]; omega), if_pos (by omega), if_pos (by rw [keysI_len]; simp only [List.length_cons]; omega), if_pos rfl]
    have e : wrap64 (0 + 1) = ((1 : Nat) : Int) := wrap_nat _ _ (by omega) (by omega)
    rw [e, h]
    rfl
theorem bts_zero : Bts 0 (fun _ => 0) := .inl ⟨rfl, fun _ => rfl⟩
theorem bts_pre (i : Nat) (h1 : 1 ≤ i) (h2 : i ≤ 10) : Bts (6 * i - 2) (pre i) := .inr ⟨by omega, by omega, fun x => by
  unfold pre
  rw [show 64 - (6 * i - 2) = 66 - 6 * i by omega]⟩
theorem kindsF_congr {f g : Nat → Nat} : ∀ (l : List Nat) (x : Nat), (∀ y, y ∈ x :: l → f y = g y) → kindsF f x l = kindsF g x l := by
  intro l
  induction l with
  | nil => intro x h; rfl
  | cons y r ih =>
    intro x h
    simp only [kindsF]
    rw [ih y (fun z hz => h z (List.mem_cons_of_mem _ hz)), h y (by simp), h x (by simp)]
theorem kindsN_congr {f g : Nat → Nat} {l : List Nat} (h : ∀ y, y ∈ l → f y = g y) : kindsN f l = kindsN g l := by
  cases l with
  | nil => rfl
  | cons x r => simp only [kindsN]; rw [kindsF_congr r x h]
theorem trie_step {l : List Nat} (hlen : l.length ≤ 1000000) (n c j : Nat) (hj : j < 10) (hc : c ≤ 100000000) :
    stepstoneref11_Trie.l0 (l.length + n + 2) (keysI l) (c : Nat) ((4 + 6 * j : Nat) : Int) = stepstoneref11_Trie.l0 (l.length + n + 1) (keysI l) ((c + kindsN (pre (j + 1)) l : Nat) : Int) ((4 + 6 * (j + 1) : Nat) : Int) := by
  have hk := kinds_f hlen (pre (j + 1)) (6 * (j + 1) - 2) (l.length + n) (bts_pre (j + 1) (by omega) (by omega)) (by omega)
  have hle := kindsN_le (pre (j + 1)) l
  have e0 : 6 * (j + 1) - 2 = 4 + 6 * j := by omega
  rw [e0] at hk
  have e1 : wrap64 ((c : Int) + ((kindsN (pre (j + 1)) l : Nat) : Int)) = ((c + kindsN (pre (j + 1)) l : Nat) : Int) := wrap_nat _ _ (by omega) (by omega)
  have e2 : wrap64 (((4 + 6 * j : Nat) : Int) + 6) = ((4 + 6 * (j + 1) : Nat) : Int) := wrap_nat _ _ (by omega) (by omega)
  conv => lhs; unfold stepstoneref11_Trie.l0
  rw [if_pos (by omega), hk, Option.bind_some, e1, e2]
theorem trie_f {l : List Nat} (hlen : l.length ≤ 1000000) (hb : ∀ x, x ∈ l → x < 18446744073709551616) : stepstoneref11_Trie.f (l.length + 12) (keysI l) = some ((used l : Nat) : Int) := by
  have hk := kinds_f hlen (fun _ => 0) 0 (l.length + 11) bts_zero (by omega)
  have h0 : kindsN (fun _ => 0) l = kindsN (pre 0) l := kindsN_congr (fun y hy => (pre_zero (hb y hy)).symm)
  have hle : ∀ f, kindsN f l ≤ 1000000 := fun f => Nat.le_trans (kindsN_le f l) hlen
  have l0 := hle (pre 0); have l1 := hle (pre 1); have l2 := hle (pre 2); have l3 := hle (pre 3); have l4 := hle (pre 4); have l5 := hle (pre 5); have l6 := hle (pre 6); have l7 := hle (pre 7); have l8 := hle (pre 8); have l9 := hle (pre 9); have l10 := hle (pre 10)
  unfold stepstoneref11_Trie.f
  rw [show ((0 : Nat) : Int) = (0 : Int) from rfl] at hk
  rw [hk, Option.bind_some, h0]
  have s0 := trie_step hlen 10 (kindsN (pre 0) l) 0 (by omega) (by omega)
  have s1 := trie_step hlen 9 (kindsN (pre 0) l + kindsN (pre 1) l) 1 (by omega) (by omega)
  have s2 := trie_step hlen 8 (kindsN (pre 0) l + kindsN (pre 1) l + kindsN (pre 2) l) 2 (by omega) (by omega)
  have s3 := trie_step hlen 7 (kindsN (pre 0) l + kindsN (pre 1) l + kindsN (pre 2) l + kindsN (pre 3) l) 3 (by omega) (by omega)
  have s4 := trie_step hlen 6 (kindsN (pre 0) l + kindsN (pre 1) l + kindsN (pre 2) l + kindsN (pre 3) l + kindsN (pre 4) l) 4 (by omega) (by omega)
  have s5 := trie_step hlen 5 (kindsN (pre 0) l + kindsN (pre 1) l + kindsN (pre 2) l + kindsN (pre 3) l + kindsN (pre 4) l + kindsN (pre 5) l) 5 (by omega) (by omega)
  have s6 := trie_step hlen 4 (kindsN (pre 0) l + kindsN (pre 1) l + kindsN (pre 2) l + kindsN (pre 3) l + kindsN (pre 4) l + kindsN (pre 5) l + kindsN (pre 6) l) 6 (by omega) (by omega)
  have s7 := trie_step hlen 3 (kindsN (pre 0) l + kindsN (pre 1) l + kindsN (pre 2) l + kindsN (pre 3) l + kindsN (pre 4) l + kindsN (pre 5) l + kindsN (pre 6) l + kindsN (pre 7) l) 7 (by omega) (by omega)
  have s8 := trie_step hlen 2 (kindsN (pre 0) l + kindsN (pre 1) l + kindsN (pre 2) l + kindsN (pre 3) l + kindsN (pre 4) l + kindsN (pre 5) l + kindsN (pre 6) l + kindsN (pre 7) l + kindsN (pre 8) l) 8 (by omega) (by omega)
  have s9 := trie_step hlen 1 (kindsN (pre 0) l + kindsN (pre 1) l + kindsN (pre 2) l + kindsN (pre 3) l + kindsN (pre 4) l + kindsN (pre 5) l + kindsN (pre 6) l + kindsN (pre 7) l + kindsN (pre 8) l + kindsN (pre 9) l) 9 (by omega) (by omega)
  refine Eq.trans s0 (Eq.trans s1 (Eq.trans s2 (Eq.trans s3 (Eq.trans s4 (Eq.trans s5 (Eq.trans s6 (Eq.trans s7 (Eq.trans s8 (Eq.trans s9 ?_)))))))))
  unfold stepstoneref11_Trie.l0
  rw [if_neg (by omega)]
  congr 2
  unfold used
  simp [List.range_succ]
  omega
theorem tref_calls (A : Option Addr) (c : Nat) (l : List Nat) (w : World) (hr : Kd.R (Kd.int .u64) 31 w 0 (fun _ => True) (.slice A l.length c) (keysI l)) (hl : l.length ≤ 1000000) (hb : ∀ x, x ∈ l → x < 18446744073709551616) :
    Calls Tryd.prog 18 #[.slice A l.length c] w fun e w' => e = .returned (.int .i64 (used l : Nat)) ∧ Nw w w' := by
  obtain ⟨hC, hc⟩ := R_c hr
  have h := PTrieWalks.stepstoneref11_Trie.calls (l.length + 12) A c (keysI l) _ w (by rw [keysI_len]; exact hC) (by rw [keysI_len]; exact hc) (trie_f hl hb)
  rw [keysI_len] at h
  exact h.mono (fun e w' ⟨h1, h2⟩ => ⟨h1, drawn_nw h2⟩)
theorem find2_calls (A : Option Addr) (c : Nat) (l : List Nat) (k : Nat) (w : World) (hup : Up l) (hr : Kd.R (Kd.int .u64) 31 w 0 (fun _ => True) (.slice A l.length c) (keysI l)) (hl : l.length ≤ 1000000) :
    Calls Tryd.prog 20 #[.slice A l.length c, .int .u64 k] w fun e w' => e = .returned (.tuple #[.int .i64 (cntLt l k : Nat), .bool (decide (k ∈ l))]) ∧ Nw w w' := by
  obtain ⟨hC, hc⟩ := R_c hr
  have h := PTrieWalks.stepstoneref11_Find.calls (l.length + 1) A c (keysI l) (k : Nat) _ _ w (by rw [keysI_len]; exact hC) (by rw [keysI_len]; exact hc) (find_f hup hl k l.length (Nat.le_refl _))
  rw [keysI_len] at h
  exact h.mono (fun e w' ⟨h1, h2⟩ => ⟨h1, drawn_nw h2⟩)
/-- An elder world with nothing in it: whatever lies in a world, lies from 0 on. -/
theorem below_zero (w : World) : Below ({ w with heap := #[] } : World).heap.size { w with heap := #[] } w := ⟨rfl, rfl, rfl, Nat.zero_le _, fun k hk => absurd hk (Nat.not_lt_zero _)⟩
theorem nw_of {w w' : World} (h : Below ({ w with heap := #[] } : World).heap.size { w with heap := #[] } w') (hk : Kept w w' (fun _ => False)) : Nw w w' :=
  ⟨h.os, h.tape, h.output, hk.1, fun i hi hs => hk.2 i hi hs⟩
theorem R_high {w : World} {v : Value} {xs : List Int} {N : Nat} (h : Kd.R (Kd.int .u64) 31 w 0 (fun k_ => (False ∨ N ≤ k_)) v xs) : Kd.R (Kd.int .u64) 31 w N (fun _ => True) v xs :=
  R_base (Kd.R_mono h (fun _ _ => trivial)) (fun q hq => (h.1 q hq).elim (fun h => h.elim) (fun h => h))
theorem add_there (A : Option Addr) (c : Nat) (l : List Nat) (k : Nat) (w : World) (hup : Up l) (hr : Kd.R (Kd.int .u64) 31 w 0 (fun _ => True) (.slice A l.length c) (keysI l)) (hl : l.length ≤ 1000000) (hk : k ∈ l) :
    Calls Tryd.prog 17 #[.slice A l.length c, .int .u64 k] w fun e w' => e = .returned (.slice A l.length c) ∧ Nw w w' := by
  have HF := Lib.hid (find2_calls A c l k w hup hr hl)
  rw [decide_eq_true hk] at HF
  clear hup hr hk
  go_enter Tryd.func17, Tryd.ntmps17
  go_wp2_with (go_at_call 20; refine HF.out.mono ?_; rintro e w1 ⟨rfl, hf⟩; have HN := Lib.hid hf; clear hf)
  go_ret
  exact ⟨rfl, HN.out⟩
theorem add_new (A : Option Addr) (c : Nat) (l : List Nat) (k : Nat) (w : World) (hup : Up l) (hr : Kd.R (Kd.int .u64) 31 w 0 (fun _ => True) (.slice A l.length c) (keysI l)) (hl : l.length ≤ 1000000) (hk : k ∉ l) :
    Calls Tryd.prog 17 #[.slice A l.length c, .int .u64 k] w fun e w' => ∃ A' c', e = .returned (.slice A' (insS l k).length c') ∧ Kd.R (Kd.int .u64) 31 w' w.heap.size (fun _ => True) (.slice A' (insS l k).length c') (keysI (insS l k)) ∧ Nw w w' := by
  have ha := add_f hup hl k l.length (Nat.le_refl _)
  unfold addN at ha
  rw [if_neg hk] at ha
  have hff := find_f hup hl k l.length (Nat.le_refl _)
  rw [decide_eq_false hk] at hff
  refine (PTrieWalks.stepstoneref11_Add.calls2 (l.length + 1) (fun _ => True) (fun _ => False) (.slice A l.length c) (keysI l) (k : Nat) _ { w with heap := #[] } w (below_zero w) hr ha _ hff).mono ?_
  rintro e w' ⟨v', rfl, hR, hB, hK⟩
  have hR2 := R_high hR
  obtain ⟨A', c', rfl⟩ := R_form hR2
  rw [keysI_len] at hR2 ⊢
  exact ⟨A', c', rfl, hR2, nw_of hB hK⟩
end Go.Proofs.YtnhdcefoigmjpaaDoor
