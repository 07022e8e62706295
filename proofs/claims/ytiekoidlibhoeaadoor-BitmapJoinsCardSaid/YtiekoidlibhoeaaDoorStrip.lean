/-
  The contracts of the package strip: words behind one another, as one number B.
-/
import Derived.RangeFuncNested
import Derived.RangeFuncBound
import Derived.RangeFuncCalls
import Derived.RangeFuncLeaves
import Derived.RangeFuncBox
import Derived.Shelf.Abstract
import Derived.Shelf.RegionOpen
import Derived.Sort.QuietIn
import Derived.WalkKit
import Derived.OwnWalkIn
import Derived.TacticsInMore
import Derived.LoopNIn
import Derived.LoopIn
import Derived.Test.YtiekoidlibhoeaaDoorBit
import Derived.Test.YtiekoidlibhoeaaDoorStripPure2
namespace Go.Proofs.YtiekoidlibhoeaaDoor
open Go.RowKit Go.Shelf Go.Proofs.YtiekoidlibhoeaaDoorW.PrintWords Go.Proofs.YtiekoidlibhoeaaDoorW.PrintMore
attribute [local go_sem] Oper.semAt_some
set_option linter.unusedVariables false
set_option linter.unusedSimpArgs false

/-- Block p is a strip of n words that hold the number B; the words' cells lie in block q. -/
structure St (W : World) (p q n B : Nat) : Prop where
  ne : p ≠ q
  le : n ≤ 4096
  lt : B < 2 ^ (64 * n)
  head : ∃ c, W.heap[p]? = some (.cells #[.slice (some ⟨q, 0, none⟩) n c] 87 (0, 0))
  cells : ∃ cur : Array Value, W.heap[q]? = some (.cells cur 66 (0, 0)) ∧ n ≤ cur.size ∧ cur.toList.take n = (wordsI n B).map (Value.int .u64)

set_option maxHeartbeats 1000000 in
set_option maxRecDepth 100000 in
theorem new_calls (n : Nat) (w : World) (hn : n ≤ 4096) :
    Calls Tryd.prog 61 #[.int .i64 n] w fun e w' => ∃ p q, e = .returned (.tuple #[.pointer (some ⟨p, 0, none⟩), .int .i64 0]) ∧ w.heap.size ≤ p ∧ w.heap.size ≤ q ∧ St w' p q n 0 ∧ Nw w w' := by
  have HB := Lib.hid (Below.refl w.heap.size w)
  go_enter Tryd.func61, Tryd.ntmps61
  go_wp2_with (refine Kd.R_make (Kd.int .u64) (w0 := w) w.heap.size 66 rfl rfl 67 (.tmp 10) (.tmp 10) rfl n rfl rfl Tryd.underlying67 (.int .u64 0) 8 (by kernel_rfl) rfl (by decide) (by decide) (0 : Int) (ok := fun _ => True) (okp := fun _ => False) rfl (fun _ h => h.elim) trivial (by omega) (by simp; omega) HB.out (Nat.le_refl _) ?_; intro v1 w1 ho hb hg hat; obtain ⟨A, c, rfl, hc, hC⟩ := Kd.R_reads ho)
  obtain ⟨hl, hrow⟩ := Kd.own_of_R ho
  rcases hrow with ⟨hnil, _⟩ | ⟨g, cap, cur, hv, hg1, hblk, h1, h2, h3, h4⟩
  · obtain ⟨b, hb1, _⟩ := hat
    rw [hnil] at hb1; simp [Value.ownBlock] at hb1
  · injection hv with hA _ _
    subst hA
    have hW : wordsI n 0 = List.replicate n 0 := by
      apply List.ext_getElem (by simp [wordsI])
      intro i a b
      simp [wordsI, wordN]
    go_returns
    refine ⟨w1.heap.size, g, rfl, hb.size, hg1, ⟨by have := blk_lt hblk; omega, hn, Nat.two_pow_pos _, ⟨c, blk_new _ _⟩, ⟨cur, blk_alloc hblk _, by simp at h1 h3; omega, ?_⟩⟩, (Fr.of_below hb).alloc _⟩
    rw [hW]
    simpa [encs] using h4

theorem St.nw {W W1 : World} {p q n B : Nat} (h : St W p q n B) {S : Nat → Prop} (hf : Fr S W W1) (hp : ¬ S p) (hq : ¬ S q) : St W1 p q n B := by
  obtain ⟨h1, h2, h3, ⟨c, h4⟩, ⟨cur, h7, h8, h9⟩⟩ := h
  exact ⟨h1, h2, h3, ⟨c, hf.blk h4 hp⟩, ⟨cur, hf.blk h7 hq, h8, h9⟩⟩

set_option maxHeartbeats 1000000 in
theorem bits_calls (p q n B : Nat) (w : World) (h : St w p q n B) :
    Calls Tryd.prog 72 #[.pointer (some ⟨p, 0, none⟩)] w fun e w' => e = .returned (.int .i64 (64 * n : Nat)) ∧ w = w' := by
  obtain ⟨h1, h2, h3, ⟨c, h4⟩, h6⟩ := h
  have hc := blk_cell h4 0
  clear h4 h6 h3
  go_enter Tryd.func72, Tryd.ntmps72
  go_wp2
  go_ret
  exact ⟨ret_int (by go_num), rfl⟩

set_option maxHeartbeats 1000000 in
theorem parts_calls (P : Option Addr) (a b : Int) (w : World) : Calls Tryd.prog 69 #[.pointer P, .int .i64 a, .int .i64 b] w fun e w' =>
    e = .returned (.func (.func 84) #[] #[.pointer (some ⟨w.heap.size + 1, 0, none⟩), .pointer (some ⟨w.heap.size + 1 + 1, 0, none⟩), .pointer (some ⟨w.heap.size, 0, none⟩)]) ∧
      w' = ((w.alloc (.cells #[.pointer P] 60)).alloc (.cells #[.int .i64 a] 3)).alloc (.cells #[.int .i64 b] 3) := by
  go_enter Tryd.func69, Tryd.ntmps69
  go_wp2
  go_ret
  exact ⟨rfl, rfl⟩

/-- A part that lies within n words. -/
abbrev Part (n : Nat) : Type := { y : Nat × Nat // y.1 < n ∧ y.2 < 18446744073709551616 }
def encPart (n : Nat) (y : Part n) : Array Value := #[.agg #[.int .i64 (y.1.1 : Nat), .int .u64 (y.1.2 : Nat)]]

theorem i64w (n : Nat) (h : n < 9223372036854775808) : wrap64 (n : Int) = (n : Int) := by
  unfold wrap64; omega

set_option maxRecDepth 100000 in
set_option maxHeartbeats 4000000 in
theorem parts_in (m : Nat) (hm : 1 ≤ m) (l Bs : Nat) (P : Option Addr) (n : Nat) (hn : n ≤ 4096) (a b : Int) (J Jx : List (Part n) → World → Prop)
    (hY : ∀ pre y W, J pre W → pre.length < n → YieldAt Fence.wide (m - 1) Tryd.prog l (encPart n y) W fun e W' =>
      (e = .returned (.bool true) ∧ J (pre ++ [y]) W' ∧ True) ∨ (e = .returned (.bool false) ∧ Jx (pre ++ [y]) W'))
    (W : World) (hs : W.cell? ⟨Bs, 0, none⟩ = some (.pointer P)) (ha : W.cell? ⟨Bs + 1, 0, none⟩ = some (.int .i64 a)) (hb : W.cell? ⟨Bs + 1 + 1, 0, none⟩ = some (.int .i64 b))
    (hbits : ∀ w', w' = W ∨ w' = W.drew → Calls Tryd.prog 72 #[.pointer P] w' fun e w2 => e = .returned (.int .i64 (64 * n : Nat)) ∧ w' = w2)
    (hdr : ∀ W, J [] W → J [] W.drew) (h0 : J [] W) :
    CallsIn Fence.wide m Tryd.prog 84 #[.func (.yield l) #[] #[], .pointer (some ⟨Bs + 1, 0, none⟩), .pointer (some ⟨Bs + 1 + 1, 0, none⟩), .pointer (some ⟨Bs, 0, none⟩)] W fun e W' => (∃ v, e = .returned v) ∧
      ((∃ ys : List (Part n), ys.map (·.1) = partsL (fromN a) (toN b (64 * n)) ∧ J ys W') ∨ (∃ pre : List (Part n), pre.map (·.1) <+: partsL (fromN a) (toN b (64 * n)) ∧ Jx pre W')) := by
  have HY := Lib.hid hY
  have H0 := Lib.hid h0
  have HD := Lib.hid hdr
  have HB := Lib.hid hbits
  clear hY h0 hdr hbits
  refine callsIn_of_wp Tryd.func84 rfl trivial ?_ rfl
  simp only [Tryd.ntmps84, List.size_toArray, List.length_cons, List.length_nil, Nat.reduceAdd, Nat.reduceSub, Array.replicate_succ, Array.replicate_zero, List.push_toArray, List.append_toArray, List.nil_append, List.cons_append]
  gi_wp2
  rename_i Q K hK
  refine (fun (hk : K { tmps := #[.func (.yield l) #[] #[], .pointer (some ⟨Bs + 1, 0, none⟩), .pointer (some ⟨Bs + 1 + 1, 0, none⟩), .pointer (some ⟨Bs, 0, none⟩), undef, .int .i64 (max a 0), .int .i64 (min b (64 * (n : Int))), undef, undef, .int .i64 a, .int .i64 (max a 0), .int .i64 b, .pointer P, .int .i64 (64 * (n : Int)), .int .i64 (min b (64 * (n : Int))), undef, undef, undef, undef, undef, undef, undef, undef, undef, undef, undef, undef, undef, undef, undef, undef, undef, undef, undef, undef, undef, undef, undef, undef, undef], defers := [] } W.drew) => ?reg) ?rest
  case reg =>
    clear hK HY HD H0
    gi_region_with (refine ⟨trivial, ?_⟩; gi_at_call 72; refine (callsIn_wide.2 (HB.out _ (by first | exact .inl rfl | exact .inr rfl))).mono ?_; rintro e w' ⟨rfl, rfl⟩)
    all_goals exact hk
  case rest =>
    refine hK _ _ ?_
    clear hK
    have HDr := Lib.hid (HD.out W H0.out)
    obtain ⟨A, hA⟩ : ∃ A : Nat, A = fromN a := ⟨_, rfl⟩
    obtain ⟨C, hC⟩ : ∃ C : Int, C = min b (64 * (n : Int)) := ⟨_, rfl⟩
    have e1 : max a 0 = (A : Int) := by rw [hA, fromN]; omega
    have e2 : toN b (64 * n) = C.toNat := by rw [hC, toN]; congr 1
    have e3 : C ≤ 64 * (n : Int) := by omega
    have HE := Lib.hid (show partsL (fromN a) (toN b (64 * n)) = partsL A C.toNat by rw [hA, e2])
    rw [e1, ← hC]
    clear e1 e2 hA hC hs ha hb HB H0 HD
    gi_wp2
    gi_loopw [5, 7, 8] (fun f at' en wr => ∃ (x : Nat) (pre : List (Part n)), f = .int .i64 x ∧ (x : Int) ≤ max (A : Int) C ∧ pre.length ≤ n ∧ Hid (partsL A C.toNat = pre.map (·.1) ++ partsL x C.toNat) ∧ Hid (J pre wr))
      (fun f _ _ _ => C.toNat - (intOf f).toNat)
    case atStart => exact ⟨A, [], rfl, by omega, by simp, Lib.hid rfl, HDr⟩
    case round =>
      obtain ⟨x, pre, rfl, hx, hp, HL, HJ⟩ := hrel
      by_cases h : (x : Int) < C
      · have e4 : x / 64 < n := by omega
        have HR := Lib.hid (partsL_cons x C.toNat (by omega))
        obtain ⟨e, he⟩ : ∃ e, e = min C.toNat (64 * (x / 64 + 1)) := ⟨_, rfl⟩
        rw [← he] at HR
        have hE : min C (64 * ((x : Int) / 64 + 1)) = (e : Int) := by omega
        have HM : Hid (∀ w, Calls Tryd.prog 83 #[.int .i64 ((x : Int) - 64 * ((x : Int) / 64)), .int .i64 (min C (64 * ((x : Int) / 64 + 1)) - 64 * ((x : Int) / 64))] w fun e1 w' => e1 = .returned (.int .u64 ((partN x e).2 : Nat)) ∧ w = w') := by
          refine Lib.hid (fun w => ?_)
          have := mask_calls ((x - 64 * (x / 64) : Nat) : Int) ((e - 64 * (x / 64) : Nat) : Int) w
          rw [hE]
          rw [show ((x - 64 * (x / 64) : Nat) : Int) = (x : Int) - 64 * ((x : Int) / 64) by omega, show ((e - 64 * (x / 64) : Nat) : Int) = (e : Int) - 64 * ((x : Int) / 64) by omega] at this
          rw [show (partN x e).2 = maskN ((x : Int) - 64 * ((x : Int) / 64)) ((e : Int) - 64 * ((x : Int) / 64)) by
            rw [← show ((x - 64 * (x / 64) : Nat) : Int) = (x : Int) - 64 * ((x : Int) / 64) by omega, ← show ((e - 64 * (x / 64) : Nat) : Int) = (e : Int) - 64 * ((x : Int) / 64) by omega]; rfl]
          exact this
        have hml : (partN x e).2 < 18446744073709551616 := mask_lt _ _
        have hP : partN x e = (x / 64, (partN x e).2) := rfl
        obtain ⟨mk, hmk⟩ : ∃ mk, mk = (partN x e).2 := ⟨_, rfl⟩
        rw [← hmk] at HM hml hP
        rw [hP] at HR
        clear hmk hP
        have hlen : pre.length < n := by
          have h1 := parts_len a b n
          rw [HE.out, HL.out, HR.out] at h1
          simp at h1; omega
        have hY2 := HY.out pre ⟨(x / 64, mk), e4, hml⟩ wr HJ.out hlen
        rw [show encPart n ⟨(x / 64, mk), e4, hml⟩ = #[.agg #[.int .i64 ((x : Int) / 64), .int .u64 mk]] from rfl] at hY2
        obtain ⟨fn, tmps, assign, body, hy, hR⟩ := hY2
        have HE2 := Lib.hid hE
        have HE3 := Lib.hid he
        clear he hE
        gi_wp2_with (refine ⟨trivial, ?_⟩; gi_at_call 83; refine (callsIn_wide.2 (HM.out _)).mono ?_; rintro e1 w' ⟨rfl, rfl⟩; clear HM)
        refine hR.mono ?_
        rintro e1 W3 (⟨rfl, hJ3, hk3⟩ | ⟨rfl, hJx3⟩)
        · have HJ3 := Lib.hid hJ3
          clear hJ3 hk3 hy hR HJ HDr HY
          gi_wp2
          go_roundw
          case rel => exact ⟨e, pre ++ [⟨(x / 64, mk), e4, hml⟩], by rw [HE2.out], by have := HE3.out; omega, by simp; omega, Lib.hid (by rw [HL.out, HR.out]; simp), HJ3⟩
          case measure => rw [HE2.out]; have := HE3.out; simp [intOf]; omega
        · have HJ3 := Lib.hid hJx3
          clear hJx3 hy hR HJ HDr HY
          gi_wp2
          refine bodyPost_ret (results_none rfl _ _ _) rfl ?_
          exact ⟨⟨_, rfl⟩, .inr ⟨pre ++ [⟨(x / 64, mk), e4, hml⟩], ⟨partsL e C.toNat, by rw [HE.out, HL.out, HR.out]; simp⟩, HJ3.out⟩⟩
      · have HF : Hid (pre.map (·.1) = partsL (fromN a) (toN b (64 * n))) := Lib.hid (by rw [HE.out, HL.out, partsL_none x C.toNat (by omega), List.append_nil])
        clear HL HE
        gi_wp2
        go_end0
        exact ⟨⟨_, rfl⟩, .inl ⟨pre, HF.out, HJ.out⟩⟩

end Go.Proofs.YtiekoidlibhoeaaDoor
