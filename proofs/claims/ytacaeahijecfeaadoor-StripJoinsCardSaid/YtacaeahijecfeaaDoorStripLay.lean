/-
  The law's own words of strip: do, lay, awake.
-/
import Derived.Test.YtacaeahijecfeaaDoorStripDo
namespace Go.Proofs.YtacaeahijecfeaaDoor
open Go.RowKit Go.Shelf Go.Proofs.YtacaeahijecfeaaDoorW.PrintWords Go.Proofs.YtacaeahijecfeaaDoorW.PrintMore
set_option linter.unusedVariables false
set_option linter.unusedSimpArgs false

theorem SP.st {W : World} {p q n B : Nat} (h : SP W (some ⟨p, 0, none⟩) q n B) : St W p q n B := by
  rcases h with ⟨p', h1, h2⟩ | ⟨h1, _⟩
  · cases h1; exact h2
  · cases h1

theorem do_set (n B d : Nat) (i j : Int) (h : d % 4 = 0) : (doN n B d i j).1 = setB n B i ∧ (inB n i && !B.testBit i.toNat) = decide ((0 : Int) < ((doN n B d i j).2 : Nat)) := by
  unfold doN setB
  cases hin : inB n i with
  | false => simp [show d % 4 < 2 by omega]
  | true =>
    obtain ⟨h0, h1⟩ := of_decide_eq_true hin
    rw [if_neg (by simp)]
    have e1 : fromN i = i.toNat := by unfold fromN; omega
    have e2 : toN (doTo d i j) (64 * n) = i.toNat + 1 := by unfold toN doTo; rw [if_pos (by omega)]; omega
    rw [e1, e2]
    unfold stepN
    rw [if_pos (by omega), seg_one]
    cases B.testBit i.toNat <;> simp <;> omega
theorem do_clr (n B d : Nat) (i j : Int) (h : d % 4 = 1) : (doN n B d i j).1 = clrB n B i ∧ getB n B i = decide ((0 : Int) < ((doN n B d i j).2 : Nat)) := by
  unfold doN clrB getB
  cases hin : inB n i with
  | false => simp [show d % 4 < 2 by omega]
  | true =>
    obtain ⟨h0, h1⟩ := of_decide_eq_true hin
    rw [if_neg (by simp)]
    have e1 : fromN i = i.toNat := by unfold fromN; omega
    have e2 : toN (doTo d i j) (64 * n) = i.toNat + 1 := by unfold toN doTo; rw [if_pos (by omega)]; omega
    rw [e1, e2]
    unfold stepN
    rw [if_neg (by omega), seg_one]
    cases B.testBit i.toNat <;> simp
theorem do_fill (n B d : Nat) (i j : Int) (h : d % 4 = 2) : (doN n B d i j).1 = fillN B (fromN i) (toN j (64 * n)) ∧ (doN n B d i j).2 = toN j (64 * n) - fromN i - segN B (fromN i) (toN j (64 * n)) := by
  rw [doN, if_neg (fun h' => absurd h'.1 (by omega)), doTo, if_neg (by omega), stepN, if_pos (by omega)]
  exact ⟨rfl, rfl⟩
theorem do_wipe (n B d : Nat) (i j : Int) (h : d % 4 = 3) : (doN n B d i j).1 = wipeN B (fromN i) (toN j (64 * n)) ∧ (doN n B d i j).2 = segN B (fromN i) (toN j (64 * n)) := by
  rw [doN, if_neg (fun h' => absurd h'.1 (by omega)), doTo, if_neg (by omega), stepN, if_neg (by omega)]
  exact ⟨rfl, rfl⟩

def Two (a b : Nat) : Nat → Prop := fun k => k = a ∨ k = b

set_option maxRecDepth 100000 in
set_option maxHeartbeats 4000000 in
theorem do_calls (p q x n B d : Nat) (i j : Int) (w : World) (hs : St w p q n B) (hr : RS w x n (listB n B)) (hd : d < 256) :
    Calls Tryd.prog 42 #[.pointer (some ⟨p, 0, none⟩), .pointer (some ⟨x, 0, none⟩), .agg #[.int .u8 d, .int .i64 i, .int .i64 j]] w fun e w' =>
      e = .returned (.bool true) ∧ St w' p q n (doN n B d i j).1 ∧ RS w' x n (listB n (doN n B d i j).1) ∧ Fr (Two q x) w w' := by
  have hn := hs.le
  have HS := Lib.hid hs
  have HR := Lib.hid hr
  have hxl := hr.xlt
  clear hs hr
  rcases (by omega : d % 4 = 0 ∨ d % 4 = 1 ∨ d % 4 = 2 ∨ d % 4 = 3) with h | h | h | h
  · have hD := do_set n B d i j h
    have e0 : (d : Int) % 4 = 0 := by omega
    have e5 : (d : Int).tmod 4 = 0 := by rw [Int.tmod_eq_emod_of_nonneg (by omega)]; omega
    have HX := Lib.hid hD
    go_enter Tryd.func42, Tryd.ntmps42
    go_wp2_with (fail)
    have hbx := blk_new w (.cells #[.int .u8 d, .int .i64 i, .int .i64 j] 61)
    have hNw : Nw w (w.alloc (.cells #[.int .u8 d, .int .i64 i, .int .i64 j] 61)) := (Fr.refl _ _).alloc _
    obtain ⟨w1, hw1⟩ : ∃ w1, w1 = w.alloc (.cells #[.int .u8 d, .int .i64 i, .int .i64 j] 61) := ⟨_, rfl⟩
    rw [← hw1] at hbx hNw ⊢
    have HBx := Lib.hid hbx
    have HN := Lib.hid hNw
    have hb0 : w1.cell? ⟨w.heap.size, 0, none⟩ = some (.int .u8 d) := blk_cell hbx 0
    have hb1 : w1.cell? ⟨w.heap.size, 1, none⟩ = some (.int .i64 i) := blk_cell hbx 1
    have hb2 : w1.cell? ⟨w.heap.size, 2, none⟩ = some (.int .i64 j) := blk_cell hbx 2
    clear hw1 hbx hNw hD
    go_wp2_with (first | (go_at_call 58; refine (refdo_calls x n B d i j w1 (HR.out.nw HN.out) hn hd).mono ?_; rintro e w5 ⟨rfl, hR5, hF5⟩; have hS5 := St.ref (HR.out.nw HN.out) (HS.out.nw HN.out (fun h => h) (fun h => h)) hF5; have hx5 := hF5.blk HBx.out (One.ne (by omega)); have hb0 : w5.cell? ⟨w.heap.size, 0, none⟩ = some (.int .u8 d) := blk_cell hx5 0; have hb1 : w5.cell? ⟨w.heap.size, 1, none⟩ = some (.int .i64 i) := blk_cell hx5 1; have hb2 : w5.cell? ⟨w.heap.size, 2, none⟩ = some (.int .i64 j) := blk_cell hx5 2; have HS5 := Lib.hid hS5; have HR5 := Lib.hid hR5; have HF5 := Lib.hid hF5; clear hx5 hS5 hR5 hF5) | (go_at_call 28; refine (sset_calls (some ⟨p, 0, none⟩) q n B i _ (.inl ⟨p, rfl, HS5.out⟩)).mono ?_; rintro e w6 ⟨rfl, hS6, hF6⟩; rw [HX.out.2]; rw [← HX.out.1] at hS6))
    go_ret
    exact ⟨ret_bool (by simp), hS6.st, HR5.out.strip HS5.out hF6, ((nw_any HN.out).trans_of HF5.out (fun _ _ h => .inr h)).trans_of hF6 (fun _ _ h => .inl h)⟩
  · have hD := do_clr n B d i j h
    have e0 : (d : Int) % 4 = 1 := by omega
    have e5 : (d : Int).tmod 4 = 1 := by rw [Int.tmod_eq_emod_of_nonneg (by omega)]; omega
    have HX := Lib.hid hD
    go_enter Tryd.func42, Tryd.ntmps42
    go_wp2_with (fail)
    have hbx := blk_new w (.cells #[.int .u8 d, .int .i64 i, .int .i64 j] 61)
    have hNw : Nw w (w.alloc (.cells #[.int .u8 d, .int .i64 i, .int .i64 j] 61)) := (Fr.refl _ _).alloc _
    obtain ⟨w1, hw1⟩ : ∃ w1, w1 = w.alloc (.cells #[.int .u8 d, .int .i64 i, .int .i64 j] 61) := ⟨_, rfl⟩
    rw [← hw1] at hbx hNw ⊢
    have HBx := Lib.hid hbx
    have HN := Lib.hid hNw
    have hb0 : w1.cell? ⟨w.heap.size, 0, none⟩ = some (.int .u8 d) := blk_cell hbx 0
    have hb1 : w1.cell? ⟨w.heap.size, 1, none⟩ = some (.int .i64 i) := blk_cell hbx 1
    have hb2 : w1.cell? ⟨w.heap.size, 2, none⟩ = some (.int .i64 j) := blk_cell hbx 2
    clear hw1 hbx hNw hD
    go_wp2_with (first | (go_at_call 58; refine (refdo_calls x n B d i j w1 (HR.out.nw HN.out) hn hd).mono ?_; rintro e w5 ⟨rfl, hR5, hF5⟩; have hS5 := St.ref (HR.out.nw HN.out) (HS.out.nw HN.out (fun h => h) (fun h => h)) hF5; have hx5 := hF5.blk HBx.out (One.ne (by omega)); have hb0 : w5.cell? ⟨w.heap.size, 0, none⟩ = some (.int .u8 d) := blk_cell hx5 0; have hb1 : w5.cell? ⟨w.heap.size, 1, none⟩ = some (.int .i64 i) := blk_cell hx5 1; have hb2 : w5.cell? ⟨w.heap.size, 2, none⟩ = some (.int .i64 j) := blk_cell hx5 2; have HS5 := Lib.hid hS5; have HR5 := Lib.hid hR5; have HF5 := Lib.hid hF5; clear hx5 hS5 hR5 hF5) | (go_at_call 41; refine (sclear_calls (some ⟨p, 0, none⟩) q n B i _ (.inl ⟨p, rfl, HS5.out⟩)).mono ?_; rintro e w6 ⟨rfl, hS6, hF6⟩; rw [HX.out.2]; rw [← HX.out.1] at hS6))
    go_ret
    exact ⟨ret_bool (by simp), hS6.st, HR5.out.strip HS5.out hF6, ((nw_any HN.out).trans_of HF5.out (fun _ _ h => .inr h)).trans_of hF6 (fun _ _ h => .inl h)⟩
  · have hD := do_fill n B d i j h
    have e0 : (d : Int) % 4 = 2 := by omega
    have e5 : (d : Int).tmod 4 = 2 := by rw [Int.tmod_eq_emod_of_nonneg (by omega)]; omega
    have HX := Lib.hid hD
    go_enter Tryd.func42, Tryd.ntmps42
    go_wp2_with (fail)
    have hbx := blk_new w (.cells #[.int .u8 d, .int .i64 i, .int .i64 j] 61)
    have hNw : Nw w (w.alloc (.cells #[.int .u8 d, .int .i64 i, .int .i64 j] 61)) := (Fr.refl _ _).alloc _
    obtain ⟨w1, hw1⟩ : ∃ w1, w1 = w.alloc (.cells #[.int .u8 d, .int .i64 i, .int .i64 j] 61) := ⟨_, rfl⟩
    rw [← hw1] at hbx hNw ⊢
    have HBx := Lib.hid hbx
    have HN := Lib.hid hNw
    have hb0 : w1.cell? ⟨w.heap.size, 0, none⟩ = some (.int .u8 d) := blk_cell hbx 0
    have hb1 : w1.cell? ⟨w.heap.size, 1, none⟩ = some (.int .i64 i) := blk_cell hbx 1
    have hb2 : w1.cell? ⟨w.heap.size, 2, none⟩ = some (.int .i64 j) := blk_cell hbx 2
    clear hw1 hbx hNw hD
    go_wp2_with (first | (go_at_call 58; refine (refdo_calls x n B d i j w1 (HR.out.nw HN.out) hn hd).mono ?_; rintro e w5 ⟨rfl, hR5, hF5⟩; have hS5 := St.ref (HR.out.nw HN.out) (HS.out.nw HN.out (fun h => h) (fun h => h)) hF5; have hx5 := hF5.blk HBx.out (One.ne (by omega)); have hb0 : w5.cell? ⟨w.heap.size, 0, none⟩ = some (.int .u8 d) := blk_cell hx5 0; have hb1 : w5.cell? ⟨w.heap.size, 1, none⟩ = some (.int .i64 i) := blk_cell hx5 1; have hb2 : w5.cell? ⟨w.heap.size, 2, none⟩ = some (.int .i64 j) := blk_cell hx5 2; have HS5 := Lib.hid hS5; have HR5 := Lib.hid hR5; have HF5 := Lib.hid hF5; clear hx5 hS5 hR5 hF5) | (go_at_call 17; refine (fill_calls (some ⟨p, 0, none⟩) q n B i j _ (.inl ⟨p, rfl, HS5.out⟩)).mono ?_; rintro e w6 ⟨rfl, hS6, hF6⟩; rw [← HX.out.2]; rw [← HX.out.1] at hS6))
    go_ret
    exact ⟨ret_bool (by simp), hS6.st, HR5.out.strip HS5.out hF6, ((nw_any HN.out).trans_of HF5.out (fun _ _ h => .inr h)).trans_of hF6 (fun _ _ h => .inl h)⟩
  · have hD := do_wipe n B d i j h
    have e0 : (d : Int) % 4 = 3 := by omega
    have e5 : (d : Int).tmod 4 = 3 := by rw [Int.tmod_eq_emod_of_nonneg (by omega)]; omega
    have HX := Lib.hid hD
    go_enter Tryd.func42, Tryd.ntmps42
    go_wp2_with (fail)
    have hbx := blk_new w (.cells #[.int .u8 d, .int .i64 i, .int .i64 j] 61)
    have hNw : Nw w (w.alloc (.cells #[.int .u8 d, .int .i64 i, .int .i64 j] 61)) := (Fr.refl _ _).alloc _
    obtain ⟨w1, hw1⟩ : ∃ w1, w1 = w.alloc (.cells #[.int .u8 d, .int .i64 i, .int .i64 j] 61) := ⟨_, rfl⟩
    rw [← hw1] at hbx hNw ⊢
    have HBx := Lib.hid hbx
    have HN := Lib.hid hNw
    have hb0 : w1.cell? ⟨w.heap.size, 0, none⟩ = some (.int .u8 d) := blk_cell hbx 0
    have hb1 : w1.cell? ⟨w.heap.size, 1, none⟩ = some (.int .i64 i) := blk_cell hbx 1
    have hb2 : w1.cell? ⟨w.heap.size, 2, none⟩ = some (.int .i64 j) := blk_cell hbx 2
    clear hw1 hbx hNw hD
    go_wp2_with (first | (go_at_call 58; refine (refdo_calls x n B d i j w1 (HR.out.nw HN.out) hn hd).mono ?_; rintro e w5 ⟨rfl, hR5, hF5⟩; have hS5 := St.ref (HR.out.nw HN.out) (HS.out.nw HN.out (fun h => h) (fun h => h)) hF5; have hx5 := hF5.blk HBx.out (One.ne (by omega)); have hb0 : w5.cell? ⟨w.heap.size, 0, none⟩ = some (.int .u8 d) := blk_cell hx5 0; have hb1 : w5.cell? ⟨w.heap.size, 1, none⟩ = some (.int .i64 i) := blk_cell hx5 1; have hb2 : w5.cell? ⟨w.heap.size, 2, none⟩ = some (.int .i64 j) := blk_cell hx5 2; have HS5 := Lib.hid hS5; have HR5 := Lib.hid hR5; have HF5 := Lib.hid hF5; clear hx5 hS5 hR5 hF5) | (go_at_call 16; refine (wipe_calls (some ⟨p, 0, none⟩) q n B i j _ (.inl ⟨p, rfl, HS5.out⟩)).mono ?_; rintro e w6 ⟨rfl, hS6, hF6⟩; rw [← HX.out.2]; rw [← HX.out.1] at hS6))
    go_ret
    exact ⟨ret_bool (by simp), hS6.st, HR5.out.strip HS5.out hF6, ((nw_any HN.out).trans_of HF5.out (fun _ _ h => .inr h)).trans_of hF6 (fun _ _ h => .inl h)⟩

/-! ### lay -/
abbrev Act3 : Type := Nat × Int × Int
def layN (n : Nat) (l : List Act3) : Nat := l.foldl (fun B a => (doN n B a.1 a.2.1 a.2.2).1) 0
/-- A row of acts in memory. -/
def AC (W : World) (a : Option Addr) (l : List Act3) : Prop := ∀ k (h : k < l.length), ∃ g o, a = some ⟨g, o, none⟩ ∧ W.cell? ⟨g, o + k * 3, none⟩ = some (.int .u8 (l[k].1 : Nat)) ∧ W.cell? ⟨g, o + k * 3 + 1, none⟩ = some (.int .i64 l[k].2.1) ∧ W.cell? ⟨g, o + k * 3 + 2, none⟩ = some (.int .i64 l[k].2.2) ∧ l[k].1 < 256
theorem AC.nw {W W1 : World} {a : Option Addr} {l : List Act3} (h : AC W a l) (hf : Nw W W1) : AC W1 a l := fun k hk => by
  obtain ⟨g, o, h0, h1, h2, h3, h4⟩ := h k hk
  exact ⟨g, o, h0, hf.cell h1 (fun h => h), hf.cell h2 (fun h => h), hf.cell h3 (fun h => h), h4⟩
theorem layN_snoc (n : Nat) (l : List Act3) (k : Nat) (h : k < l.length) : layN n (l.take (k + 1)) = (doN n (layN n (l.take k)) l[k].1 l[k].2.1 l[k].2.2).1 := by
  unfold layN
  rw [List.take_succ_eq_append_getElem h, List.foldl_append]; rfl

set_option maxRecDepth 100000 in
set_option maxHeartbeats 4000000 in
theorem lay_calls (b : Nat) (a : Option Addr) (cap : Nat) (l : List Act3) (w : World) (hb : b < 256) (hA : AC w a l) (hl : l.length ≤ 140737488351232) :
    Calls Tryd.prog 11 #[.int .u8 b, .slice a l.length cap] w fun e w' => ∃ p q A c, e = .returned (.tuple #[.pointer (some ⟨p, 0, none⟩), .agg #[.int .i64 ((b % 5 : Nat) : Int), .slice A (listB (b % 5) (layN (b % 5) (l.take 25))).length c], .bool true]) ∧ w.heap.size ≤ p ∧ w.heap.size ≤ q ∧
      St w' p q (b % 5) (layN (b % 5) (l.take 25)) ∧ Kd.R (Kd.int .i64) 3 w' w.heap.size (fun _ => True) (.slice A (listB (b % 5) (layN (b % 5) (l.take 25))).length c) (listB (b % 5) (layN (b % 5) (l.take 25))) ∧ Nw w w' := by
  have HA := Lib.hid hA
  have e5 : (b : Int).tmod 5 = ((b % 5 : Nat) : Int) := by rw [Int.tmod_eq_emod_of_nonneg (by omega)]; rfl
  have e6 : (b : Int) % 5 = ((b % 5 : Nat) : Int) := rfl
  have hn5 : b % 5 < 5 := Nat.mod_lt _ (by decide)
  obtain ⟨n, hn⟩ : ∃ n, n = b % 5 := ⟨_, rfl⟩
  rw [← hn] at e5 e6 hn5 ⊢
  have HE6 := Lib.hid e6
  clear hn hA
  go_enter Tryd.func11, Tryd.ntmps11
  go_wp2_with (go_at_call 33; refine (new_calls n _ (by omega)).mono ?_; rintro e w1 ⟨p, q, rfl, hp, hq, hS, hN⟩)
  have hR0 : RS (w1.alloc (.cells #[.int .i64 n, .slice none 0 0] 27)) w1.heap.size n (listB n 0) := ⟨_, blk_new _ _, by rw [listB_zero]; exact Kd.R_nil _ _ _ _ _⟩
  have hS0 := hS.nw ((Fr.refl (fun _ => False) w1).alloc (.cells #[.int .i64 n, .slice none 0 0] 27)) (fun h => h) (fun h => h)
  have hN0 : Nw w (w1.alloc (.cells #[.int .i64 n, .slice none 0 0] 27)) := (((Fr.refl _ _).alloc _).trans hN).alloc _
  have hB0 : (w1.alloc (.cells #[.int .i64 n, .slice none 0 0] 27)).heap[w.heap.size]? = some (.cells #[.int .i64 0, .slice none 0 0] 27 (0, 0)) := blk_alloc (hN.blk (blk_new _ _) (fun h => h)) _
  have hp1 : w.heap.size + 1 ≤ p := by simpa using hp
  have hq1 : w.heap.size + 1 ≤ q := by simpa using hq
  have hx1 : w.heap.size + 1 ≤ w1.heap.size := by have := hN.size; simpa using this
  obtain ⟨x, hx⟩ : ∃ x, x = w1.heap.size := ⟨_, rfl⟩
  rw [← hx] at hR0 hx1 ⊢
  obtain ⟨w2, hw2⟩ : ∃ w2, w2 = w1.alloc (.cells #[.int .i64 n, .slice none 0 0] 27) := ⟨_, rfl⟩
  rw [← hw2] at hR0 hS0 hN0 hB0 ⊢
  clear hx hw2 hN hS hp hq e5 e6
  have HR0 := Lib.hid hR0
  have HS0 := Lib.hid hS0
  have HN0 := Lib.hid hN0
  have HB0 := Lib.hid hB0
  clear hR0 hS0 hN0 hB0
  go_loopw [25, 11, 12] (fun ii i1 a1 wr => ∃ k : Nat, k ≤ l.length ∧ ii = .int .i64 k ∧ Hid (St wr p q n (layN n (l.take (min k 25)))) ∧ Hid (RS wr x n (listB n (layN n (l.take (min k 25))))) ∧ Hid (Nw w wr) ∧ Hid (wr.heap[w.heap.size]? = some (.cells #[.int .i64 0, .slice none 0 0] 27 (0, 0)))) (fun ii _ _ _ => l.length - (intOf ii).toNat)
  case atStart => exact ⟨0, Nat.zero_le _, rfl, HS0, HR0, HN0, HB0⟩
  case round =>
    obtain ⟨k, hk, rfl, HS, HR, HN, HB⟩ := hrel
    by_cases hlt : k < l.length
    · obtain ⟨g, o, rfl, c0, c1, c2, hd⟩ := HA.out k hlt
      have HLs := Lib.hid (layN_snoc n l k hlt)
      obtain ⟨⟨d, i, j⟩, hact⟩ : ∃ y, y = l[k] := ⟨_, rfl⟩
      rw [← hact] at c0 c1 c2 hd HLs
      clear hact
      simp only at c0 c1 c2 hd
      have c0 := HN.out.cell c0 (fun h => h)
      have c1 := HN.out.cell c1 (fun h => h)
      have c2 := HN.out.cell c2 (fun h => h)
      by_cases h25 : k < 25
      · have h25' : (k : Int) < 25 := by omega
        have HLk : Hid (layN n (l.take (min (k + 1) 25)) = (doN n (layN n (l.take (min k 25))) d i j).1) := Lib.hid (by rw [show min (k + 1) 25 = k + 1 by omega, show min k 25 = k by omega]; exact HLs.out)
        go_wp2_with (go_at_call 42; refine (do_calls p q x n _ d i j _ (HS.out.nw ((Fr.refl (fun _ => False) _).alloc _) (fun h => h) (fun h => h)) (HR.out.nw ((Fr.refl _ _).alloc _)) hd).mono ?_; rintro e w5 ⟨rfl, hS5, hR5, hF5⟩)
        go_roundw
        case rel => exact ⟨k + 1, by omega, by go_num, Lib.hid (by rw [HLk.out]; exact hS5), Lib.hid (by rw [HLk.out]; exact hR5), Lib.hid ((HN.out.alloc _).trans_of hF5 (fun y hy h => by rcases h with rfl | rfl <;> omega)), Lib.hid (hF5.blk (blk_alloc HB.out _) (fun h => by rcases h with h | h <;> omega))⟩
        case measure => simp [intOf]; omega
      · have h25' : ¬ (k : Int) < 25 := by omega
        have HLk : Hid (min (k + 1) 25 = min k 25) := Lib.hid (by omega)
        go_wp2
        go_roundw
        case rel => exact ⟨k + 1, by omega, by go_num, Lib.hid (by rw [HLk.out]; exact HS.out.nw ((Fr.refl (fun _ => False) _).alloc _) (fun h => h) (fun h => h)), Lib.hid (by rw [HLk.out]; exact HR.out.nw ((Fr.refl _ _).alloc _)), Lib.hid (HN.out.alloc _), Lib.hid (blk_alloc HB.out _)⟩
        case measure => simp [intOf]; omega
    · have hE : l.take (min k 25) = l.take 25 := by
        rcases Nat.le_total k 25 with h | h
        · rw [Nat.min_eq_left h, List.take_of_length_le (by omega), List.take_of_length_le (by omega)]
        · rw [Nat.min_eq_right h]
      rw [hE] at HS HR
      clear hE
      obtain ⟨A, c, hx0, hx1', hfr, hC⟩ := HR.out.reads
      obtain ⟨v, hxb, hRv⟩ := HR.out
      have hv : v = .slice A (listB n (layN n (l.take 25))).length c := by
        have := (blk_cell hxb 1).symm.trans hx1'
        simpa using this
      rw [hv] at hRv
      have HRv := Lib.hid hRv
      have hr0 := blk_cell HB.out 0
      have hr1 := blk_cell HB.out 1
      have hrf := fun i => blk_frozen HB.out i
      obtain ⟨L, hL⟩ : ∃ L, L = (listB n (layN n (l.take 25))).length := ⟨_, rfl⟩
      rw [← hL] at hx1' HRv
      have HL := Lib.hid hL
      clear hC hxb hv hRv hL
      have hr0 : wr.cell? ⟨w.heap.size, 0, none⟩ = some (.int .i64 0) := hr0
      have hr1 : wr.cell? ⟨w.heap.size, 1, none⟩ = some (.slice none 0 0) := hr1
      go_wp2
      refine wp_still 3 (by kernel_rfl) (by kernel_rfl) ?_
      simp only [List.take_succ_cons, List.take_zero, List.drop_succ_cons, List.drop_zero]
      repeat still_step
      refine wpStill_nil ?_
      go_wp2
      have hkf := (Fr.refl (One w.heap.size) wr).set (One.self _) 0 (Value.int .i64 n) |>.set (One.self _) 1 (.slice A L c) |>.drew
      have HKF := Lib.hid hkf
      have hg0 : ((wr.setCell ⟨w.heap.size, 0, none⟩ (.int .i64 n)).setCell ⟨w.heap.size, 1, none⟩ (.slice A L c)).drew.cell? ⟨w.heap.size, 0, none⟩ = some (.int .i64 n) := blk_cell (blk_set (blk_set HB.out 0 (.int .i64 n)) 1 (.slice A L c)) 0
      have hg1 : ((wr.setCell ⟨w.heap.size, 0, none⟩ (.int .i64 n)).setCell ⟨w.heap.size, 1, none⟩ (.slice A L c)).drew.cell? ⟨w.heap.size, 1, none⟩ = some (.slice A L c) := blk_cell (blk_set (blk_set HB.out 0 (.int .i64 n)) 1 (.slice A L c)) 1
      obtain ⟨w9, hw9⟩ : ∃ w9, w9 = ((wr.setCell ⟨w.heap.size, 0, none⟩ (.int .i64 n)).setCell ⟨w.heap.size, 1, none⟩ (.slice A L c)).drew := ⟨_, rfl⟩
      rw [← hw9] at hg0 hg1 hkf ⊢
      have HW9 := Lib.hid hw9
      have HKF := Lib.hid hkf
      clear hkf hw9
      refine bodyPost_ret (by simp [results, Tryd.results11, go_sem, hg0, hg1]; try rfl) rfl ?_
      have hN9 := HN.out.trans_of HKF.out (fun y hy h => by have : y = w.heap.size := h; omega)
      refine ⟨p, q, A, c, by rw [← HL.out], by omega, by omega, HS.out.nw HKF.out (fun h => by have : p = w.heap.size := h; omega) (fun h => by have : q = w.heap.size := h; omega), ?_, hN9⟩
      rw [← HL.out]
      exact R_keep HRv.out (fun g hg => by omega) (fun g cs m hg hb => HKF.out.blk hb (fun h => by have : g = w.heap.size := h; omega))

end Go.Proofs.YtacaeahijecfeaaDoor
