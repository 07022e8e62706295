/-
  The arithmetic of math/bits.OnesCount64: the sum by pairs, nibbles and bytes is how many bits are set. No program here.
-/
import Derived.Test.YtnhdcefoigmjpaaDoorBitPure
namespace Go.Proofs.YtnhdcefoigmjpaaDoor
set_option linter.unusedVariables false
set_option linter.unusedSimpArgs false

theorem land_byte (a b c d : Nat) (hb : b < 256) (hd : d < 256) : (256 * a + b) &&& (256 * c + d) = 256 * (a &&& c) + (b &&& d) := by
  apply Nat.eq_of_testBit_eq
  intro i
  rw [show (256 : Nat) = 2 ^ 8 by decide] at *
  rw [Nat.testBit_and, Nat.testBit_two_pow_mul_add _ hb, Nat.testBit_two_pow_mul_add _ hd, Nat.testBit_two_pow_mul_add _ (Nat.lt_of_le_of_lt Nat.and_le_left hb), Nat.testBit_and, Nat.testBit_and]
  split <;> rfl

def rep (c : Nat) : Nat → Nat
  | 0 => 0
  | n + 1 => 256 * rep c n + c
def pf1 (n x : Nat) : Nat := ((x / 2) &&& rep 85 n) + (x &&& rep 85 n)
def pf2 (n x : Nat) : Nat := ((x / 4) &&& rep 51 n) + (x &&& rep 51 n)
def pf3 (n x : Nat) : Nat := (x / 16 + x) &&& rep 15 n
def pg1 (b : Nat) : Nat := ((b / 2) &&& 85) + (b &&& 85)
def pg2 (b : Nat) : Nat := ((b / 4) &&& 51) + (b &&& 51)
def pg3 (b : Nat) : Nat := (b / 16 + b) &&& 15

theorem and85 : ∀ c : Fin 2, ∀ e : Fin 128, (128 * c.val + e.val) &&& 85 = e.val &&& 85 := by decide +kernel
theorem and51 : ∀ c : Fin 4, ∀ e : Fin 64, (64 * c.val + e.val) &&& 51 = e.val &&& 51 := by decide +kernel
theorem and15 (x : Nat) : x &&& 15 = x % 16 := Nat.and_two_pow_sub_one_eq_mod x 4

theorem pf1_succ (n a b : Nat) (hb : b < 256) : pf1 (n + 1) (256 * a + b) = 256 * pf1 n a + pg1 b := by
  unfold pf1 pg1
  rw [show rep 85 (n + 1) = 256 * rep 85 n + 85 from rfl]
  have e : (256 * a + b) / 2 = 256 * (a / 2) + (128 * (a % 2) + b / 2) := by omega
  rw [e, land_byte _ _ _ _ (by omega) (by omega), land_byte _ _ _ _ hb (by omega)]
  have h := and85 ⟨a % 2, by omega⟩ ⟨b / 2, by omega⟩
  simp only at h
  rw [h]; omega
theorem pf2_succ (n a b : Nat) (hb : b < 256) : pf2 (n + 1) (256 * a + b) = 256 * pf2 n a + pg2 b := by
  unfold pf2 pg2
  rw [show rep 51 (n + 1) = 256 * rep 51 n + 51 from rfl]
  have e : (256 * a + b) / 4 = 256 * (a / 4) + (64 * (a % 4) + b / 4) := by omega
  rw [e, land_byte _ _ _ _ (by omega) (by omega), land_byte _ _ _ _ hb (by omega)]
  have h := and51 ⟨a % 4, by omega⟩ ⟨b / 4, by omega⟩
  simp only at h
  rw [h]; omega
theorem pf3_succ (n a b : Nat) (ha : a % 16 ≤ 4) (hb : b / 16 ≤ 4 ∧ b % 16 ≤ 4) : pf3 (n + 1) (256 * a + b) = 256 * pf3 n a + pg3 b := by
  unfold pf3 pg3
  rw [show rep 15 (n + 1) = 256 * rep 15 n + 15 from rfl]
  have e : (256 * a + b) / 16 + (256 * a + b) = 256 * (a / 16 + a) + (16 * (a % 16) + (b / 16 + b)) := by omega
  rw [e, land_byte _ _ _ _ (by omega) (by omega), and15, and15]; omega

def pcb (b : Nat) : Nat := (bitsFrom b 8 0).length
theorem pg_all : ∀ b : Fin 256, pg3 (pg2 (pg1 b.val)) = pcb b.val ∧ pg1 b.val < 256 ∧ pg2 (pg1 b.val) < 256 ∧ pg2 (pg1 b.val) / 16 ≤ 4 ∧ pg2 (pg1 b.val) % 16 ≤ 4 := by decide +kernel

theorem pcb_le (b : Nat) : pcb b ≤ 8 := bitsFrom_len ..

theorem pf_succ (n x : Nat) : pf3 (n + 1) (pf2 (n + 1) (pf1 (n + 1) x)) = 256 * pf3 n (pf2 n (pf1 n (x / 256))) + pcb (x % 256) ∧ pf2 (n + 1) (pf1 (n + 1) x) % 16 ≤ 4 := by
  have key : ∀ m y, pf2 m (pf1 m y) % 16 ≤ 4 := by
    intro m
    cases m with
    | zero => intro y; simp [pf1, pf2, rep]
    | succ m =>
      intro y
      obtain ⟨h1, h2, h3, h4, h5⟩ := pg_all ⟨y % 256, by omega⟩
      simp only at h1 h2 h3 h4 h5
      rw [show y = 256 * (y / 256) + y % 256 by omega, pf1_succ _ _ _ (by omega), pf2_succ _ _ _ (by omega)]; omega
  refine ⟨?_, key _ _⟩
  obtain ⟨h1, h2, h3, h4, h5⟩ := pg_all ⟨x % 256, by omega⟩
  simp only at h1 h2 h3 h4 h5
  rw [show pf1 (n + 1) x = pf1 (n + 1) (256 * (x / 256) + x % 256) by rw [Nat.div_add_mod], pf1_succ _ _ _ (by omega), pf2_succ _ _ _ h2, pf3_succ _ _ _ (key _ _) ⟨h4, h5⟩, h1]

theorem bits_len_eq (u v d : Nat) : ∀ i j, (∀ k, k < d → u.testBit (i + k) = v.testBit (j + k)) → (bitsFrom u d i).length = (bitsFrom v d j).length := by
  induction d with
  | zero => intros; rfl
  | succ d ih =>
    intro i j h
    simp only [bitsFrom, List.length_append]
    rw [ih (i + 1) (j + 1) (fun k hk => by rw [show i + 1 + k = i + (k + 1) by omega, show j + 1 + k = j + (k + 1) by omega]; exact h (k + 1) (by omega))]
    have := h 0 (by omega)
    simp only [Nat.add_zero] at this
    rw [this]
    split <;> simp
theorem bits_split (w a b i : Nat) : bitsFrom w (a + b) i = bitsFrom w a i ++ bitsFrom w b (i + a) := by
  induction a generalizing i with
  | zero => simp [bitsFrom]
  | succ a ih =>
    rw [show a + 1 + b = (a + b) + 1 by omega]
    simp only [bitsFrom]
    rw [ih, List.append_assoc, show i + 1 + a = i + (a + 1) by omega]
theorem byte_len (w i : Nat) : (bitsFrom w 8 i).length = pcb (w / 2 ^ i % 256) := by
  unfold pcb
  apply bits_len_eq
  intro k hk
  rw [Nat.zero_add, show (256 : Nat) = 2 ^ 8 by decide, Nat.testBit_mod_two_pow, Nat.testBit_div_two_pow, decide_eq_true (show k < 8 from hk)]
  rw [Nat.add_comm]; rfl
theorem cnt_bytes (w : Nat) : cntN w = pcb (w % 256) + pcb (w / 256 % 256) + pcb (w / 65536 % 256) + pcb (w / 16777216 % 256) + pcb (w / 4294967296 % 256) + pcb (w / 1099511627776 % 256) + pcb (w / 281474976710656 % 256) + pcb (w / 72057594037927936 % 256) := by
  have s0 : bitsFrom w 64 0 = bitsFrom w 8 0 ++ bitsFrom w 56 8 := bits_split w 8 56 0
  have s1 : bitsFrom w 56 8 = bitsFrom w 8 8 ++ bitsFrom w 48 16 := bits_split w 8 48 8
  have s2 : bitsFrom w 48 16 = bitsFrom w 8 16 ++ bitsFrom w 40 24 := bits_split w 8 40 16
  have s3 : bitsFrom w 40 24 = bitsFrom w 8 24 ++ bitsFrom w 32 32 := bits_split w 8 32 24
  have s4 : bitsFrom w 32 32 = bitsFrom w 8 32 ++ bitsFrom w 24 40 := bits_split w 8 24 32
  have s5 : bitsFrom w 24 40 = bitsFrom w 8 40 ++ bitsFrom w 16 48 := bits_split w 8 16 40
  have s6 : bitsFrom w 16 48 = bitsFrom w 8 48 ++ bitsFrom w 8 56 := bits_split w 8 8 48
  have b0 := byte_len w 0
  have b1 := byte_len w 8
  have b2 := byte_len w 16
  have b3 := byte_len w 24
  have b4 := byte_len w 32
  have b5 := byte_len w 40
  have b6 := byte_len w 48
  have b7 := byte_len w 56
  simp only [Nat.reducePow, Nat.div_one] at b0 b1 b2 b3 b4 b5 b6 b7
  unfold cntN listW
  rw [s0, s1, s2, s3, s4, s5, s6]
  simp only [List.length_append]
  omega

/-- What the program reckons, step by step. -/
theorem pop_eq (w a1 a2 a3 : Nat) (h1 : a1 = ((w / 2) &&& 6148914691236517205) + (w &&& 6148914691236517205)) (h2 : a2 = ((a1 / 4) &&& 3689348814741910323) + (a1 &&& 3689348814741910323))
    (h3 : a3 = (a2 / 16 + a2) &&& 1085102592571150095) :
    a3 < 1157442765409226769 ∧ ((a3 + a3 / 256) + (a3 + a3 / 256) / 65536 + ((a3 + a3 / 256) + (a3 + a3 / 256) / 65536) / 4294967296) % 128 = cntN w := by
  have e1 : a1 = pf1 8 w := h1
  have e2 : a2 = pf2 8 (pf1 8 w) := by rw [h2, e1]; rfl
  have e3 : a3 = pf3 8 (pf2 8 (pf1 8 w)) := by rw [h3, e2]; rfl
  have z : ∀ x, pf3 0 (pf2 0 (pf1 0 x)) = 0 := by intro x; simp [pf3, rep]
  rw [(pf_succ 7 w).1, (pf_succ 6 _).1, (pf_succ 5 _).1, (pf_succ 4 _).1, (pf_succ 3 _).1, (pf_succ 2 _).1, (pf_succ 1 _).1, (pf_succ 0 _).1, z] at e3
  simp only [Nat.div_div_eq_div_mul, Nat.reduceMul] at e3
  rw [cnt_bytes]
  have b0 := pcb_le (w % 256)
  have b1 := pcb_le (w / 256 % 256)
  have b2 := pcb_le (w / 65536 % 256)
  have b3 := pcb_le (w / 16777216 % 256)
  have b4 := pcb_le (w / 4294967296 % 256)
  have b5 := pcb_le (w / 1099511627776 % 256)
  have b6 := pcb_le (w / 281474976710656 % 256)
  have b7 := pcb_le (w / 72057594037927936 % 256)
  generalize pcb (w % 256) = c0 at *
  generalize pcb (w / 256 % 256) = c1 at *
  generalize pcb (w / 65536 % 256) = c2 at *
  generalize pcb (w / 16777216 % 256) = c3 at *
  generalize pcb (w / 4294967296 % 256) = c4 at *
  generalize pcb (w / 1099511627776 % 256) = c5 at *
  generalize pcb (w / 281474976710656 % 256) = c6 at *
  generalize pcb (w / 72057594037927936 % 256) = c7 at *
  clear h1 h2 h3 e1 e2
  have d1 : a3 / 256 = 281474976710656 * c7 + 1099511627776 * c6 + 4294967296 * c5 + 16777216 * c4 + 65536 * c3 + 256 * c2 + c1 + 0 := by omega
  refine ⟨by omega, ?_⟩
  rw [d1]
  have d2 : (a3 + (281474976710656 * c7 + 1099511627776 * c6 + 4294967296 * c5 + 16777216 * c4 + 65536 * c3 + 256 * c2 + c1 + 0)) / 65536 = 1099511627776 * c7 + 4294967296 * (c6 + c7) + 16777216 * (c5 + c6) + 65536 * (c4 + c5) + 256 * (c3 + c4) + (c2 + c3) := by omega
  rw [d2]
  have d3 : (a3 + (281474976710656 * c7 + 1099511627776 * c6 + 4294967296 * c5 + 16777216 * c4 + 65536 * c3 + 256 * c2 + c1 + 0) + (1099511627776 * c7 + 4294967296 * (c6 + c7) + 16777216 * (c5 + c6) + 65536 * (c4 + c5) + 256 * (c3 + c4) + (c2 + c3))) / 4294967296 = 16777216 * c7 + 65536 * (c6 + c7) + 256 * (c5 + c6 + c7) + (c4 + c5 + c6 + c7) := by omega
  rw [d3]
  clear d1 d2 d3
  subst e3
  omega

end Go.Proofs.YtnhdcefoigmjpaaDoor
