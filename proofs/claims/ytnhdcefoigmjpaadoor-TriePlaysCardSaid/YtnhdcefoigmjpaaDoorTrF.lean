/-
  Merged by merge.py: TrGrown TrIns TrIns2 TrInsert TrInsert2.
-/
import Derived.Test.YtnhdcefoigmjpaaDoorTrC
import Derived.Test.YtnhdcefoigmjpaaDoorTrD
import Derived.Deep.CutRange
/-
  The contract of a node grown by a key.
-/

namespace Go.Proofs.YtnhdcefoigmjpaaDoor
open Go.RowKit Go.Proofs.YtnhdcefoigmjpaaDoorW.PrintWords Go.Proofs.YtnhdcefoigmjpaaDoorW.PrintMore
attribute [local go_sem] max2_int min2_int max_two min_two
set_option linter.unusedVariables false
set_option linter.unusedSimpArgs false
/-- A node with a key more below. -/
def grownN (x : Nd) (k : Nat) : Nd := ⟨x.b, x.ka, x.kn, x.kc, x.n + 1, if x.n = 0 then k else min x.lo k, if x.n = 0 then k else max x.hi k⟩
set_option maxRecDepth 100000 in
set_option maxHeartbeats 2000000 in
theorem tgrown_calls (x : Nd) (k : Nat) (w : World) (hn : x.n ≤ 1000000) (hk : k < 18446744073709551616) (hlo : x.lo < 18446744073709551616) (hhi : x.hi < 18446744073709551616) :
    Calls Tryd.prog 57 #[(Value.agg #[Value.int IntKind.u64 (Nd.b x), Value.slice (Nd.ka x) (Nd.kn x) (Nd.kc x), Value.int IntKind.i64 (Nd.n x), Value.int IntKind.u64 (Nd.lo x), Value.int IntKind.u64 (Nd.hi x)]), .int .u64 k] w fun e w' => e = .returned (Value.agg #[Value.int IntKind.u64 (Nd.b (grownN x k)), Value.slice (Nd.ka (grownN x k)) (Nd.kn (grownN x k)) (Nd.kc (grownN x k)), Value.int IntKind.i64 (Nd.n (grownN x k)), Value.int IntKind.u64 (Nd.lo (grownN x k)), Value.int IntKind.u64 (Nd.hi (grownN x k))]) ∧ Nw w w' := by
  by_cases h0 : x.n = 0
  · have HE : Hid ((Value.agg #[Value.int IntKind.u64 (Nd.b (grownN x k)), Value.slice (Nd.ka (grownN x k)) (Nd.kn (grownN x k)) (Nd.kc (grownN x k)), Value.int IntKind.i64 (Nd.n (grownN x k)), Value.int IntKind.u64 (Nd.lo (grownN x k)), Value.int IntKind.u64 (Nd.hi (grownN x k))]) = .agg #[.int .u64 x.b, .slice x.ka x.kn x.kc, .int .i64 1, .int .u64 k, .int .u64 k]) := Lib.hid (by simp [grownN, h0])
    rw [HE.out]
    go_enter Tryd.func57, Tryd.ntmps57
    go_wp2
    all_goals refine bodyPost_ret (by simp [results, Tryd.results57, go_sem]; try rfl) rfl ?_
    exact ⟨rfl, ((Fr.refl _ _).alloc _).alloc _⟩
  · have hn0 : ((x.n : Int) == 0) = false := by simp; omega
    go_enter Tryd.func57, Tryd.ntmps57
    go_wp2
    all_goals refine bodyPost_ret (by simp [results, Tryd.results57, go_sem]; try rfl) rfl ?_
    all_goals (refine ⟨?_, ((Fr.refl _ _).alloc _).alloc _⟩)
    all_goals (simp [grownN, h0]; omega)
end Go.Proofs.YtnhdcefoigmjpaaDoor

/-
  What a key more makes of a node: plain facts ahead of Insert's walk.
-/
namespace Go.Proofs.YtnhdcefoigmjpaaDoor
open Go.RowKit Go.Proofs.YtnhdcefoigmjpaaDoorW.PrintWords Go.Proofs.YtnhdcefoigmjpaaDoorW.PrintMore
set_option linter.unusedVariables false
set_option linter.unusedSimpArgs false

theorem NI.congr {W : World} {fv : Value} {ad : Ad} {L L' : Nat → List Nat} {rows : List (Option Nd)} (h : NI W fv ad L rows) (e : ∀ i, i ≤ 10 → L' i = L i) : NI W fv ad L' rows :=
  ⟨fun i hi k hk => by rw [e i hi] at hk ⊢; exact h.ok i hi k hk, fun i j hi hj x hx y hy => by rw [e i hi] at hx; rw [e j hj] at hy; exact h.inj i j hi hj x hx y hy⟩
theorem R_form {k : IntKind} {e : Nat} {W : World} {B : Nat} {v : Value} {xs : List Int} (h : Kd.R (Kd.int k) e W B (fun _ => True) v xs) : ∃ A c, v = .slice A xs.length c := by
  rcases (Kd.own_of_R h).2 with ⟨rfl, h0⟩ | ⟨g, cap, cur, rfl, _⟩
  · exact ⟨none, 0, by rw [h0]⟩
  · exact ⟨_, _, rfl⟩
theorem R_base0 {k : IntKind} {e : Nat} {W : World} {v : Value} {xs : List Int} {B : Nat} (h : Kd.R (Kd.int k) e W B (fun _ => True) v xs) : Kd.R (Kd.int k) e W 0 (fun _ => True) v xs := by
  refine Kd.R_of_own ?_ (fun _ _ => trivial)
  obtain ⟨h1, h2⟩ := Kd.own_of_R h
  refine ⟨h1, ?_⟩
  rcases h2 with h2 | ⟨g, cap, cur, rfl, _, hg, rest⟩
  · exact .inl h2
  · exact .inr ⟨g, cap, cur, rfl, Nat.zero_le _, hg, rest⟩
theorem ok_zero (W : World) (fv : Value) (ad : Ad) (l : List Nat) (i p : Nat) (h : cls l i p = []) : NdOk W fv ad l i p Nd.zero := by
  have hb := (bits_zero l i p).2 h
  refine ⟨hb.symm, by rw [h]; rfl, by rw [h]; rfl, by rw [h]; rfl, ?_, fun q hq => by cases hq⟩
  have e : (if i < 10 then kidC ad l i p else []) = [] := by
    split
    · unfold kidC; rw [hb]; rfl
    · rfl
  rw [e]; exact Kd.R_nil _ _ _ _ _
/-- A node that has its bits and children of l', its count and bounds of l still. -/
structure Mid (W : World) (fv : Value) (ad : Ad) (l l' : List Nat) (i p : Nat) (x : Nd) : Prop where
  b : x.b = bitsC l' i p
  n : x.n = (cls l i p).length
  lo : x.lo = (cls l i p).headD 0
  hi : x.hi = (cls l i p).getLastD 0
  kids : Kd.R (Kd.int .i64) 3 W 0 (fun _ => True) (.slice x.ka x.kn x.kc) (if i < 10 then kidC ad l' i p else [])
  apart : ∀ q, (Value.slice x.ka x.kn x.kc).ownBlock = some q → fv.ownBlock ≠ some q
theorem Mid.grown {W : World} {fv : Value} {ad : Ad} {l : List Nat} {i k : Nat} {x : Nd} (hl : Up l) (hk : k ∉ l) (h : Mid W fv ad l (insS l k) i (pre i k) x) : NdOk W fv ad (insS l k) i (pre i k) (grownN x k) := by
  have hc : cls (insS l k) i (pre i k) = insS (cls l i (pre i k)) k := by rw [cls_ins hl hk, if_pos rfl]
  have hkc : k ∉ cls l i (pre i k) := fun e => hk ((mem_cls l i _ k).1 e).1
  have hn : (x.n = 0) ↔ cls l i (pre i k) = [] := by rw [h.n]; exact List.length_eq_zero_iff
  refine ⟨h.b, ?_, ?_, ?_, h.kids, h.apart⟩
  · rw [hc, len_insS]; show x.n + 1 = _; rw [h.n]
  · rw [hc, head_ins (up_cls hl i _) hkc]
    show (if x.n = 0 then k else min x.lo k) = _
    by_cases e : x.n = 0
    · rw [if_pos e, if_pos (hn.1 e)]
    · rw [if_neg e, if_neg (fun h => e (hn.2 h)), h.lo]
  · rw [hc, last_ins (up_cls hl i _) hkc]
    show (if x.n = 0 then k else max x.hi k) = _
    by_cases e : x.n = 0
    · rw [if_pos e, if_pos (hn.1 e)]
    · rw [if_neg e, if_neg (fun h => e (hn.2 h)), h.hi]
theorem NdOk.mid_set {W : World} {fv : Value} {ad : Ad} {l : List Nat} {i k : Nat} {x : Nd} (hl : Up l) (hk : k ∉ l) (hi : i < 10) (h : NdOk W fv ad l i (pre i k) x) (hz : ∃ z, z ∈ l ∧ pre (i + 1) z = pre (i + 1) k) : Mid W fv ad l (insS l k) i (pre i k) x := by
  obtain ⟨e1, e2⟩ := kid_old ad ad hl hk i (pre i k) (by omega) (fun _ => hz) (fun _ _ => rfl)
  exact ⟨by rw [e1]; exact h.b, h.n, h.lo, h.hi, by have := h.kids; rw [if_pos hi] at this ⊢; rw [e2]; exact this, h.apart⟩
/-- A bit set, and (above the last level) a child laid in. -/
theorem NdOk.mid_new {W : World} {fv : Value} {ad : Ad} {l : List Nat} {i k : Nat} {x : Nd} {ka : Option Addr} {kn kc : Nat} (hl : Up l) (hk : k ∉ l) (hi : i < 10) (h : NdOk W fv ad l i (pre i k) x) (hz : ¬ ∃ z, z ∈ l ∧ pre (i + 1) z = pre (i + 1) k)
    (hR : Kd.R (Kd.int .i64) 3 W 0 (fun _ => True) (.slice ka kn kc) ((kidC ad l i (pre i k)).take (rankL (listW x.b) (dig i k : Nat)) ++ ((ad (i + 1) (pre (i + 1) k) : Nat) : Int) :: (kidC ad l i (pre i k)).drop (rankL (listW x.b) (dig i k : Nat))))
    (hap : ∀ q, (Value.slice ka kn kc).ownBlock = some q → fv.ownBlock ≠ some q) : Mid W fv ad l (insS l k) i (pre i k) ⟨setN x.b (dig i k : Nat), ka, kn, kc, x.n, x.lo, x.hi⟩ := by
  obtain ⟨e1, e2⟩ := kid_new ad ad hl hk i (by omega) (fun z hz2 e => hz ⟨z, hz2, e⟩) (fun _ _ => rfl)
  refine ⟨by rw [e1, h.b], h.n, h.lo, h.hi, ?_, hap⟩
  rw [if_pos hi, e2, ← h.b]; exact hR
theorem NdOk.mid_ten {W : World} {fv : Value} {ad : Ad} {l : List Nat} {k : Nat} {x : Nd} (hl : Up l) (hk : k ∉ l) (h : NdOk W fv ad l 10 (pre 10 k) x) : Mid W fv ad l (insS l k) 10 (pre 10 k) ⟨setN x.b (dig 10 k : Nat), x.ka, x.kn, x.kc, x.n, x.lo, x.hi⟩ := by
  refine ⟨?_, h.n, h.lo, h.hi, h.kids, h.apart⟩
  rw [bits_ins hl hk, if_pos rfl, h.b]
theorem cls_other {l : List Nat} (hl : Up l) {k : Nat} (hk : k ∉ l) (i : Nat) {y : Nat} (hy : y ∈ insS l k) (hne : pre i y ≠ pre i k) : y ∈ l ∧ cls (insS l k) i (pre i y) = cls l i (pre i y) := by
  refine ⟨?_, by rw [cls_ins hl hk, if_neg (fun e => hne e.symm)]⟩
  rcases (mem_insS l k y).1 hy with rfl | h
  · exact absurd rfl hne
  · exact h
end Go.Proofs.YtnhdcefoigmjpaaDoor

/-
  What a round of Insert leaves: plain facts ahead of Insert's walk.
-/

namespace Go.Proofs.YtnhdcefoigmjpaaDoor
open Go.RowKit Go.Proofs.YtnhdcefoigmjpaaDoorW.PrintWords Go.Proofs.YtnhdcefoigmjpaaDoorW.PrintMore
set_option linter.unusedVariables false
set_option linter.unusedSimpArgs false

/-- The blocks that a change of a trie may turn. -/
def TS (t m p : Nat) (cv fv : Value) : Nat → Prop := fun q => q = t ∨ q = m ∨ PS p cv fv q
theorem ps_kid {W : World} {m p lim : Nat} {rows : List (Option Nd)} {free : List Nat} {cv fv : Value} (h : Pl W p m rows free lim cv fv) (q : Nat) (hq : KidB W fv q) : ¬ PS p cv fv q := by
  obtain ⟨h1, cur, h2⟩ := hq
  rintro (e | e | e)
  · exact typ_ne h2 h.blk (by decide) e
  · obtain ⟨_, hc⟩ := own_blk h.own q e
    exact typ_ne h2 hc (by decide) rfl
  · exact h1 e
theorem ps_typ {W : World} {m p lim : Nat} {rows : List (Option Nd)} {free : List Nat} {cv fv : Value} (h : Pl W p m rows free lim cv fv) {b : Nat} {cs : Array Value} {T : TypeId} (hb : W.heap[b]? = some (.cells cs T (0, 0))) (h1 : T ≠ 102) (h2 : T ≠ 108) (h3 : T ≠ 3) : ¬ PS p cv fv b := by
  rintro (e | e | e)
  · exact typ_ne hb h.blk h1 e
  · obtain ⟨_, hc⟩ := own_blk h.own b e
    exact typ_ne hb hc h2 rfl
  · obtain ⟨_, hc⟩ := own_blk (Kd.own_of_R h.fre) b e
    exact typ_ne hb hc h3 rfl
/-- What the loop keeps: levels from j on are those of the keys with k. -/
structure LI (W0 W : World) (m p : Nat) (l : List Nat) (k d j lim : Nat) (ad ad' : Ad) (rows' : List (Option Nd)) (free' : List Nat) (cv fv cv' fv' : Value) : Prop where
  ni : NI W fv' ad' (fun i => if j ≤ i then insS l k else l) rows'
  pl : Pl W p m rows' free' lim cv' fv'
  live : liveN rows' = used l + (11 - max d j)
  ag : ∀ i q, i < d ∨ i < j → ad' i q = ad i q
  xc : Ext W0.heap.size cv cv'
  xf : Ext W0.heap.size fv fv'
  fr : Fr (PS p cv fv) W0 W

theorem R_ge {k : IntKind} {e : Nat} {W : World} {v : Value} {xs : List Int} {B : Nat} (h : Kd.R (Kd.int k) e W B (fun _ => True) v xs) (q : Nat) (hq : v.ownBlock = some q) : B ≤ q := by
  rcases (Kd.own_of_R h).2 with ⟨rfl, _⟩ | ⟨g, cap, cur, rfl, hg, _⟩
  · cases hq
  · cases hq; exact hg
theorem Ext.le {N M : Nat} {a b : Value} (h : Ext N a b) (hM : M ≤ N) : Ext M a b := fun q hq => (h q hq).imp id (fun e => Nat.le_trans hM e)
theorem ti_done {W0 W : World} {t m p lim root d k child : Nat} {l : List Nat} {ad ad' : Ad} {rows rows' : List (Option Nd)} {free free' : List Nat} {cv fv cv' fv' : Value} (h : TI W0 t m p l lim ad rows free cv fv root) (hl : LI W0 W m p l k d 0 lim ad ad' rows' free' cv fv cv' fv')
    (hch : child = ad' 0 (pre 0 k)) (hkl : k ∉ l) (hk : k < 18446744073709551616) (hlen : l.length + 1 ≤ 1000000) (hus : used (insS l k) = used l + (11 - d)) :
    TI ((W.setCell ⟨t, 2, none⟩ (.int .i64 child)).setCell ⟨t, 3, none⟩ (.int .i64 ((l.length : Int) + 1))) t m p (insS l k) lim ad' rows' free' cv' fv' child ∧ Fr (TS t m p cv fv) W0 ((W.setCell ⟨t, 2, none⟩ (.int .i64 child)).setCell ⟨t, 3, none⟩ (.int .i64 ((l.length : Int) + 1))) := by
  have hbt := hl.fr.blk h.blk (ps_typ h.pl h.blk (by decide) (by decide) (by decide))
  have hF : Fr (One t) W ((W.setCell ⟨t, 2, none⟩ (.int .i64 child)).setCell ⟨t, 3, none⟩ (.int .i64 ((l.length : Int) + 1))) := ((Fr.refl _ _).set (One.self t) _ _).set (One.self t) _ _
  refine ⟨⟨?_, hl.pl.fr hF (typ_ne hl.pl.blk hbt (by decide)) (fun q hq => ?_) (fun q hq => ?_), (hl.ni.congr (fun i _ => by rw [if_pos (Nat.zero_le i)])).kept hF (fun q hq => ?_) (Ext.refl _ _), by rw [hl.live, hus]; omega, up_insS h.up hkl, fun x hx => ?_, by rw [len_insS]; exact hlen, fun _ => by rw [hch, pre_zero hk]⟩, ?_⟩
  · have e := blk_set (blk_set hbt 2 (.int .i64 child)) 3 (.int .i64 ((l.length : Int) + 1))
    have el : ((l.length : Int) + 1) = ((insS l k).length : Nat) := by rw [len_insS]; omega
    rw [el] at e ⊢
    exact e
  · obtain ⟨_, hc⟩ := own_blk hl.pl.own q hq
    exact typ_ne hc hbt (by decide)
  · obtain ⟨_, hc⟩ := own_blk (Kd.own_of_R hl.pl.fre) q hq
    exact typ_ne hc hbt (by decide)
  · obtain ⟨_, _, hc⟩ := hq
    exact typ_ne hc hbt (by decide)
  · rcases (mem_insS l k x).1 hx with rfl | h1
    · exact hk
    · exact h.bd x h1
  · exact (hl.fr.mono (fun q _ h => .inr (.inr h))).trans (hF.mono (fun q _ h => .inl h))
theorem li_meter {W0 W : World} {m p lim d k j : Nat} {l : List Nat} {ad ad' : Ad} {rows rows' : List (Option Nd)} {free free' : List Nat} {cv fv cv' fv' : Value} {tk : Int} (h : Pl W0 p m rows free lim cv fv) (hm : MT W0 m tk) (hl : LI W0 W m p l k d j lim ad ad' rows' free' cv fv cv' fv') : MT W m tk := by
  obtain ⟨a, b, c, e, hb⟩ := hm
  exact ⟨a, b, c, e, hl.fr.blk hb (ps_typ h hb (by decide) (by decide) (by decide))⟩

theorem li_step {W0 W W6 : World} {m p lim d k i a : Nat} {l : List Nat} {ad ad' : Ad} {rows' rows2 : List (Option Nd)} {free' free2 : List Nat} {cv fv cv' fv' cv2 fv2 : Value} {x2 : Nd} (hl : LI W0 W m p l k d (i + 1) lim ad ad' rows' free' cv fv cv' fv') (hup : Up l) (hkl : k ∉ l) (hi : i ≤ 10) (hd : Dep l k d)
    (hnok : NdOk W fv' ad' (insS l k) i (pre i k) x2) (hpl : Pl W6 p m rows2 free2 lim cv2 fv2) (hxc : Ext W.heap.size cv' cv2) (hxf : Ext W.heap.size fv' fv2) (hfr : Fr (PS p cv' fv') W W6)
    (hold : i < d → a = ad i (pre i k)) (hnew : ¬ i < d → ∀ b y, rows'[b]? = some (some y) → b ≠ a) (hrx : rows2[a]? = some (some x2)) (hro : ∀ b y, b ≠ a → rows'[b]? = some (some y) → rows2[b]? = some (some y))
    (hlive : liveN rows2 = used l + (11 - max d i)) :
    LI W0 W6 m p l k d i lim ad (fun i' q => if i' = i ∧ q = pre i k then a else ad' i' q) rows2 free2 cv fv cv2 fv2 := by
  have hLi : (if i + 1 ≤ i then insS l k else l) = l := if_neg (by omega)
  have hag : ∀ q, i < d → ad' i q = ad i q := fun q h => hl.ag i q (.inl h)
  have hput := hl.ni.put (S := PS p cv' fv') (W1 := W6) (fv' := fv2) (ad' := fun i' q => if i' = i ∧ q = pre i k then a else ad' i' q) (rows' := rows2) i hi k a (insS l k) x2 ((mem_insS l k k).2 (.inl rfl))
    (fun y hy hne => by rw [hLi]; exact cls_other hup hkl i hy hne)
    (fun i' e y hy => by rw [if_neg (by omega)] at hy; rw [hLi]; exact hy)
    (fun _ _ => rfl)
    (fun ⟨y, hy, e⟩ => by
      rw [hLi] at hy
      have hid := (hd.2 i (by omega)).1 ⟨y, hy, e⟩
      rw [hold hid, hag _ hid])
    (fun i' hi' y hy e => by
      by_cases hid : i < d
      · obtain ⟨z, hz, e2⟩ := (hd.2 i (by omega)).2 hid
        have h1 := hl.ni.inj i' i hi' hi y hy z (by rw [hLi]; exact hz) (by rw [e, hold hid, e2, hag _ hid])
        exact ⟨h1.1, by rw [h1.2, e2]⟩
      · obtain ⟨x, h1, _⟩ := hl.ni.ok i' hi' y hy
        exact absurd e (hnew hid _ x h1))
    hrx hro hfr (fun q hq => ps_kid hl.pl q hq) hxf
    ((hnok.kept hfr (fun q hq => ps_kid hl.pl q (hnok.kidB hq)) hxf).congr hi rfl (fun _ y _ _ => by rw [if_neg (by omega)]))
  refine ⟨hput.congr (fun i' hi' => ?_), hpl, hlive, fun i' q h => ?_, hl.xc.trans hxc hl.fr.size, hl.xf.trans hxf hl.fr.size, hl.fr.trans_of hfr (fun q hq hp => ?_)⟩
  · by_cases e : i' = i
    · rw [if_pos e, if_pos (by omega)]
    · rw [if_neg e]
      by_cases e2 : i ≤ i'
      · rw [if_pos e2, if_pos (by omega)]
      · rw [if_neg e2, if_neg (by omega)]
  · by_cases e : i' = i ∧ q = pre i k
    · rw [if_pos e]
      have hid : i < d := by omega
      rw [hold hid, e.1, e.2]
    · rw [if_neg e]
      exact hl.ag i' q (by omega)
  · rcases hp with e | e | e
    · exact .inl e
    · rcases hl.xc q e with h | h
      · exact .inr (.inl h)
      · omega
    · rcases hl.xf q e with h | h
      · exact .inr (.inr h)
      · omega
theorem put_at (rows : List (Option Nd)) (free : List Nat) (x : Nd) {W : World} {p m lim : Nat} {cv fv : Value} (h : Pl W p m rows free lim cv fv) :
    (putAt rows free x)[nxt rows free]? = some (some x) ∧ (∀ b y, b ≠ nxt rows free → rows[b]? = some (some y) → (putAt rows free x)[b]? = some (some y)) ∧ (∀ b y, rows[b]? = some (some y) → b ≠ nxt rows free) ∧ (putAt rows free x).length = rows.length + (if free = [] then 1 else 0) := by
  by_cases e : free = []
  · subst e
    refine ⟨by simp [putAt, nxt], fun b y hb h1 => ?_, fun b y h1 e => ?_, by simp [putAt]⟩
    · have := (List.getElem?_eq_some_iff.1 h1).1
      simp only [putAt, if_true]
      rw [List.getElem?_append_left this]; exact h1
    · have := (List.getElem?_eq_some_iff.1 h1).1
      simp [nxt] at e; omega
  · have hm : nxt rows free ∈ free := by
      unfold nxt
      cases hg : free.getLast? with
      | none => exact absurd (List.getLast?_eq_none_iff.1 hg) e
      | some j => exact List.mem_of_getLast? hg
    have hg := h.gone _ hm
    have hlt := (List.getElem?_eq_some_iff.1 hg).1
    refine ⟨by simp only [putAt, if_neg e]; rw [List.getElem?_set_self hlt], fun b y hb h1 => ?_, fun b y h1 e2 => ?_, by simp [putAt, e]⟩
    · simp only [putAt, if_neg e]
      rw [List.getElem?_set_ne (fun e => hb e.symm)]; exact h1
    · rw [e2, hg] at h1; cases h1
theorem live_put {W W6 : World} {p m lim : Nat} {cv fv cv2 fv2 : Value} {rows : List (Option Nd)} {free : List Nat} {x : Nd} (h : Pl W p m rows free lim cv fv) (h6 : Pl W6 p m (putAt rows free x) free.dropLast lim cv2 fv2) : liveN (putAt rows free x) = liveN rows + 1 := by
  have h1 := h.cnt
  have h2 := h6.cnt
  have h3 := (put_at rows free x h).2.2.2
  rw [h3, List.length_dropLast] at h2
  by_cases e : free = []
  · rw [if_pos e] at h2; subst e; simp at h1 h2; omega
  · rw [if_neg e] at h2
    have : 0 < free.length := List.length_pos_iff.2 e
    omega
theorem LI.nw {W0 W W1 : World} {m p lim d k j : Nat} {l : List Nat} {ad ad' : Ad} {rows' : List (Option Nd)} {free' : List Nat} {cv fv cv' fv' : Value} (h : LI W0 W m p l k d j lim ad ad' rows' free' cv fv cv' fv') (hf : Nw W W1) : LI W0 W1 m p l k d j lim ad ad' rows' free' cv fv cv' fv' :=
  ⟨h.ni.kept hf (fun _ _ h => h) (Ext.refl _ _), h.pl.nw hf, h.live, h.ag, h.xc, h.xf, h.fr.trans (hf.mono (fun _ _ h => h.elim))⟩
end Go.Proofs.YtnhdcefoigmjpaaDoor

/-
  The contract of a trie's Insert.
-/

namespace Go.Proofs.YtnhdcefoigmjpaaDoor
open Go.RowKit Go.Proofs.YtnhdcefoigmjpaaDoorW.PrintWords Go.Proofs.YtnhdcefoigmjpaaDoorW.PrintMore
attribute [local go_sem] max2_int min2_int max_two min_two
set_option linter.unusedVariables false
set_option linter.unusedSimpArgs false

theorem ar1 {u i d : Nat} (h : ¬ i < d) (h10 : i ≤ 10) (hd : d ≤ 11) : u + (11 - max d (i + 1)) + 1 = u + (11 - max d i) := by omega
theorem ar2 {u i d n : Nat} (h : i < d) (e : n + 1 = u + (11 - max d (i + 1)) + 1) : n = u + (11 - max d i) := by omega
set_option maxRecDepth 100000 in
set_option maxHeartbeats 6000000 in
theorem tins_new (t m p lim root : Nat) (l : List Nat) (ad : Ad) (rows : List (Option Nd)) (free : List Nat) (cv fv : Value) (tk : Int) (w : World) (h : TI w t m p l lim ad rows free cv fv root) (hm : MT w m tk) (k : Nat) (hk : k < 18446744073709551616) (hkl : k ∉ l) (hlen : l.length + 1 ≤ 1000000) (hroom : used (insS l k) ≤ lim) :
    Calls Tryd.prog 23 #[.pointer (some ⟨t, 0, none⟩), .int .u64 k] w fun e w' => e = .returned (.int .i64 0) ∧ ∃ ad' rows' free' cv' fv' root', TI w' t m p (insS l k) lim ad' rows' free' cv' fv' root' ∧ Ext w.heap.size cv cv' ∧ Ext w.heap.size fv fv' ∧ (∃ tk' : Int, 0 ≤ tk' ∧ tk' ≤ 22 ∧ MT w' m tk') ∧ Fr (TS t m p cv fv) w w' := by
  obtain ⟨d, hd0⟩ := depth_exists l k
  have hd : Dep l k d := hd0
  have hus := used_ins h.up hkl hd.1 hd.2
  have hd11 := hd.1
  have HH := Lib.hid (thas_calls t m p lim root l ad rows free cv fv tk w h hm k hk)
  have HKF : Hid (decide (k ∈ l) = false) := Lib.hid (decide_eq_false hkl)
  have HRM : Hid (decide (liveN rows + (11 - d) ≤ lim) = true) := Lib.hid (decide_eq_true (by rw [h.live]; omega))
  have HCA : Hid ((11 : Int) - (d : Int) = ((11 - d : Nat) : Int)) := Lib.hid (by omega)
  have HUP := Lib.hid h.up
  have HBD := Lib.hid h.bd
  have HLV := Lib.hid h.live
  have HKL := Lib.hid hkl
  have HD := Lib.hid hd
  have HUS := Lib.hid hus
  have HRO := Lib.hid hroom
  have ht := h.lt
  clear h hm hkl hd hd0 hus hroom
  go_enter Tryd.func23, Tryd.ntmps23
  go_wp2_with (first
    | (go_at_call 26; refine HH.out.mono ?_; rintro e w1 ⟨rfl, ht1, ⟨tk1, q1, q2, hm1⟩, hf1⟩; rw [HKF.out]; have HT1 := Lib.hid ht1; have HM1 := Lib.hid hm1; have HF1 := Lib.hid hf1; clear ht1 hm1 hf1)
    | (go_at_call 52; refine (tpath_calls t m p lim root l ad rows free cv fv tk1 _ HT1.out HM1.out q1 (by omega) k d hk HD.out).mono ?_; rintro e w2 ⟨v', rfl, hR, hm2, hf2⟩; obtain ⟨A, cp, rfl⟩ := R_form hR; rw [way_len] at hR ⊢; have HT2 := Lib.hid (HT1.out.meter HM1.out hf2); have HM2 := Lib.hid hm2; have HF2 := Lib.hid (HF1.out.trans hf2); have HR2 := Lib.hid hR; have HGA : Hid (∀ g, A = some ⟨g, 0, none⟩ → fv.ownBlock ≠ some g) := Lib.hid (fun g e h => by subst e; have h1 := R_ge hR g rfl; obtain ⟨_, hc⟩ := own_blk (Kd.own_of_R HT1.out.pl.fre) g h; exact absurd (blk_lt hc) (by omega)); have c1 : w2.cell? ⟨t, 1, none⟩ = some (.pointer (some ⟨p, 0, none⟩)) := blk_cell HT2.out.blk 1; clear hR hm2 hf2)
    | (go_at_call 53; rw [HCA.out]; refine (pl_room p m rows free lim cv fv _ HT2.out.pl (11 - d) (by omega)).mono ?_; rintro e w3 ⟨rfl, hf3⟩; rw [HRM.out]; have HT3 := Lib.hid (HT2.out.nw hf3); have HM3 := Lib.hid (HM2.out.fr hf3 (fun h => h)); have HF3 := Lib.hid (HF2.out.trans (hf3.mono (fun _ _ h => h.elim))); have HR3 := Lib.hid (R_fr (R_base0 HR2.out) hf3 (fun _ _ h => h)); have hs3 := hf3.size; clear hf3 c1))
  go_loopw [6, 7, 8, 9, 10] (fun ch lv _ _ _ wr => ∃ (j child : Nat) (ad' : Ad) (rows' : List (Option Nd)) (free' : List Nat) (cv' fv' : Value), j ≤ 11 ∧ lv = .int .i64 ((j : Int) - 1) ∧ ch = .int .i64 child ∧ Hid (LI w3 wr m p l k d j lim ad ad' rows' free' cv fv cv' fv') ∧ Hid (j ≤ 10 → child = ad' j (pre j k))) (fun _ lv _ _ _ _ => (intOf lv + 1).toNat)
  case atStart => exact ⟨11, 0, ad, rows, free, cv, fv, by omega, rfl, rfl, Lib.hid ⟨HT3.out.ni.congr (fun i hi => by rw [if_neg (by omega)]), HT3.out.pl, by rw [HLV.out]; omega, fun _ _ _ => rfl, Ext.refl _ _, Ext.refl _ _, Fr.refl _ _⟩, Lib.hid (fun h => absurd h (by omega))⟩
  case round =>
    obtain ⟨j, child, ad', rows', free', cv', fv', hj, rfl, rfl, HLI, HCH⟩ := hrel
    cases j with
    | zero =>
      have hbt := HLI.out.fr.blk HT3.out.blk (ps_typ HT3.out.pl HT3.out.blk (by decide) (by decide) (by decide))
      have c2 := blk_cell hbt 2
      have c3 : wr.cell? ⟨t, 3, none⟩ = some (.int .i64 l.length) := blk_cell hbt 3
      have f2 := blk_frozen hbt 2
      have f3 := blk_frozen hbt 3
      have HMt : Hid (m ≠ t) := Lib.hid (by obtain ⟨_, _, _, _, hx⟩ := HM3.out; exact typ_ne hx HT3.out.blk (by decide))
      clear hbt
      have hlb : (l.length : Int) + 1 ≤ 1000000 := by omega
      go_wp2
      go_ret
      have hz := ti_done HT3.out HLI.out (HCH.out (by omega)) HKL.out hk hlen HUS.out
      refine ⟨rfl, ad', rows', free', cv', fv', child, hz.1, HLI.out.xc.le (by have := HF3.out.size; omega), HLI.out.xf.le (by have := HF3.out.size; omega), ⟨_, by omega, by omega, ((li_meter HT3.out.pl HM3.out HLI.out).fr (((Fr.refl (One t) _).set (One.self t) _ _).set (One.self t) _ _) HMt.out)⟩, (HF3.out.mono (fun q _ h => .inr (.inl h))).trans hz.2⟩
    | succ i =>
      have hi10 : i ≤ 10 := by omega
      rw [show (((i + 1 : Nat) : Int) - 1) = (i : Int) by omega]
      have HAt := Lib.hid (fun w' => tat_calls k i w' hk hi10)
      have HOK : Hid (∃ x0 : Nd, (i < d → rows'[ad i (pre i k)]? = some (some x0)) ∧ (¬ i < d → x0 = Nd.zero) ∧ NdOk wr fv' ad' l i (pre i k) x0) := Lib.hid (by
        by_cases hid : i < d
        · obtain ⟨z, hz, e⟩ := (HD.out.2 i (by omega)).2 hid
          obtain ⟨x0, h1, h2⟩ := HLI.out.ni.ok i hi10 z (by rw [if_neg (by omega)]; exact hz)
          rw [HLI.out.ag i _ (.inl hid)] at h1
          simp only [show ¬ (i + 1 ≤ i) by omega, if_false] at h2
          rw [e] at h1 h2
          exact ⟨x0, fun _ => h1, fun h => absurd hid h, h2⟩
        · refine ⟨Nd.zero, fun h => absurd h hid, fun _ => rfl, ok_zero _ _ _ _ _ _ (List.eq_nil_iff_forall_not_mem.2 (fun z hz => hid ((HD.out.2 i (by omega)).1 ⟨z, (mem_cls l i _ z).1 hz⟩)))⟩)
      obtain ⟨x0, hx1, hx2, hok⟩ := HOK.out
      have HX1 := Lib.hid hx1
      have HX2 := Lib.hid hx2
      have HOK0 := Lib.hid hok
      clear hx1 hx2 hok HOK
      have c1 : wr.cell? ⟨t, 1, none⟩ = some (.pointer (some ⟨p, 0, none⟩)) := blk_cell (HLI.out.fr.blk HT3.out.blk (ps_typ HT3.out.pl HT3.out.blk (by decide) (by decide) (by decide))) 1
      have htr : t < wr.heap.size := Nat.lt_of_lt_of_le HT3.out.lt HLI.out.fr.size
      go_upto_if 40 with (go_at_call 42; refine (HAt.out _).mono ?_; rintro e w' ⟨rfl, rfl⟩)
      obtain ⟨fb, hfb⟩ : ∃ fb, fb = decide (d ≤ i) := ⟨_, rfl⟩
      rw [← hfb]
      have HFB := Lib.hid hfb
      clear hfb
      go_cut [] from 28 to 93 (fun wx => Hid (wx.heap[wr.heap.size]? = some (.cells #[.int .u64 x0.b, .slice x0.ka x0.kn x0.kc, .int .i64 x0.n, .int .u64 x0.lo, .int .u64 x0.hi] 73)) ∧ Hid (Fr (fun _ => False) wr wx))
      case first =>
        cases fb with
        | false =>
          have hid : i < d := by have := of_decide_eq_false HFB.out.symm; omega
          obtain ⟨gA, hA, hcA⟩ : ∃ g, A = some ⟨g, 0, none⟩ ∧ wr.cell? ⟨g, i, none⟩ = some (.int .i64 (ad i (pre i k) : Nat)) := by
            have ho := Kd.own_of_R HR3.out
            rw [way_len] at ho
            rcases ho.2 with ⟨_, e⟩ | ⟨g, cap, cur, e, _, hg, _⟩
            · omega
            · simp only [Value.slice.injEq] at e
              obtain ⟨rfl, _, rfl⟩ := e
              refine ⟨g, rfl, HLI.out.fr.cell ?_ ?_⟩
              · rw [ho.cellAt _ (by omega)]
                simp only [encs, List.getElem?_map, way_get ad k d i hid, Option.map_some]
              · exact ps_kid HT3.out.pl g ⟨HGA.out g rfl, cur, hg⟩
          have hgA : gA < wr.heap.size := World.block_lt_of_cell? wr _ hcA
          subst hA
          go_wp2_with (go_at_call 48; refine (tsee_calls t m p lim root l ad rows' free' cv' fv' _ (Fr.cell ((Fr.refl (fun _ => False) _).alloc _) c1 (fun h => h)) (HLI.out.pl.nw ((Fr.refl _ _).alloc _)) _ x0 (HX1.out hid)).mono ?_; rintro e w4 ⟨rfl, hf4⟩; have hb4 := hf4.blk (blk_new wr _) (fun h => h); obtain ⟨r0, r1, r2, r3, r4⟩ := nd_cells hb4; have g0 := blk_frozen hb4 0; have g1 := blk_frozen hb4 1; have g2 := blk_frozen hb4 2; have g3 := blk_frozen hb4 3; have g4 := blk_frozen hb4 4; have HB4 := Lib.hid hb4; have HF4 := Lib.hid hf4; clear hf4 hb4)
          go_meet
          exact ⟨Lib.hid (blk_put5 HB4.out x0), Lib.hid ((((Fr.refl _ wr).alloc _).trans HF4.out).trans_new (fr_put5 w4 wr.heap.size x0) (Nat.le_refl _))⟩
        | true =>
          have hid : ¬ i < d := by have := of_decide_eq_true HFB.out.symm; omega
          have hx0 := HX2.out hid
          subst hx0
          go_wp2_with fail
          go_meet
          exact ⟨Lib.hid (blk_new wr _), Lib.hid ((Fr.refl _ wr).alloc _)⟩
      case rest =>
        obtain ⟨HB1, HF1x⟩ := hcut
        clear c1
        have hdg := dig_lt i k
        have HGT := Lib.hid (fun w' => get_calls x0.b (dig i k : Nat) w' HOK0.out.bl)
        have HST := Lib.hid (fun w' => set_calls x0.b (dig i k : Nat) w' HOK0.out.bl)
        have HRK := Lib.hid (fun w' => brank_calls x0.b (dig i k : Nat) w' HOK0.out.bl)
        obtain ⟨bt, hbt⟩ : ∃ bt, bt = getN x0.b (dig i k : Nat) := ⟨_, rfl⟩
        have HBT : Hid (bt = decide (∃ z, z ∈ l ∧ pre (i + 1) z = pre (i + 1) k)) := Lib.hid (by rw [hbt]; exact get_digit HOK0.out hi10)
        rw [← hbt] at HGT
        clear hbt
        obtain ⟨r0, r1, r2, r3, r4⟩ := nd_cells HB1.out
        have hbl1 := blk_lt HB1.out
        go_upto_if 51 with (go_at_call 51; refine (HGT.out _).mono ?_; rintro e w' ⟨rfl, rfl⟩)
        go_cut [] from 28 to 93 (fun wx => ∃ x1 : Nd, Hid (wx.heap[wr.heap.size]? = some (.cells #[.int .u64 x1.b, .slice x1.ka x1.kn x1.kc, .int .i64 x1.n, .int .u64 x1.lo, .int .u64 x1.hi] 73)) ∧ Hid (Mid wx fv' ad' l (insS l k) i (pre i k) x1) ∧ Hid (Fr (fun _ => False) wr wx))
        case first =>
          cases bt with
          | true =>
            have hz : ∃ z, z ∈ l ∧ pre (i + 1) z = pre (i + 1) k := of_decide_eq_true HBT.out.symm
            have hi9 : i < 10 := by
              rcases Nat.lt_or_ge i 10 with h | h
              · exact h
              · obtain ⟨z, h1, h2⟩ := hz
                have e10 : i = 10 := by omega
                rw [e10, pre_key, pre_key] at h2
                rw [h2] at h1
                exact absurd h1 HKL.out
            go_wp2_with fail
            go_meet
            exact ⟨x0, HB1, Lib.hid ((HOK0.out.kept HF1x.out (fun _ _ h => h) (Ext.refl _ _)).mid_set HUP.out HKL.out hi9 hz), HF1x⟩
          | false =>
            have hz : ¬ ∃ z, z ∈ l ∧ pre (i + 1) z = pre (i + 1) k := of_decide_eq_false HBT.out.symm
            have g0 := blk_frozen HB1.out 0; have g1 := blk_frozen HB1.out 1; have g2 := blk_frozen HB1.out 2; have g3 := blk_frozen HB1.out 3; have g4 := blk_frozen HB1.out 4
            have hsl := HF1x.out.size
            by_cases h10 : i = 10
            · subst h10
              go_wp2_with (go_at_call 56; refine (HST.out _).mono ?_; rintro e w' ⟨rfl, rfl⟩)
              go_meet
              have hfw : Nw wr (wc.setCell ⟨wr.heap.size, 0, none⟩ (.int .u64 (setN x0.b (dig 10 k : Nat) : Nat))) := HF1x.out.setN (Nat.le_refl _) _ _
              exact ⟨⟨setN x0.b (dig 10 k : Nat), x0.ka, x0.kn, x0.kc, x0.n, x0.lo, x0.hi⟩, Lib.hid (blk_set HB1.out 0 _), Lib.hid ((HOK0.out.kept hfw (fun _ _ h => h) (Ext.refl _ _)).mid_ten HUP.out HKL.out), Lib.hid hfw⟩
            · have hi9 : i < 10 := by omega
              have hi9' : (i : Int) < 10 := by omega
              have hkk := (HOK0.out.kept HF1x.out (fun _ _ h => h) (Ext.refl _ _)).kids
              rw [if_pos hi9] at hkk
              have hkl2 : rankL (listW x0.b) (dig i k : Nat) ≤ (kidC ad' l i (pre i k)).length ∧ (kidC ad' l i (pre i k)).length ≤ 64 := by
                rw [kid_len, ← HOK0.out.b]
                exact ⟨List.length_filter_le _ _, cntN_le _⟩
              obtain ⟨kd, hkd⟩ : ∃ kd, kd = kidC ad' l i (pre i k) := ⟨_, rfl⟩
              obtain ⟨r, hr⟩ : ∃ r, r = rankL (listW x0.b) (dig i k : Nat) := ⟨_, rfl⟩
              rw [← hkd] at hkk hkl2
              rw [← hr] at hkl2 HRK
              have HKK := Lib.hid hkk
              have HKD := Lib.hid hkd
              have HR := Lib.hid hr
              have HRL := Lib.hid hkl2
              clear hkk hkd hr hkl2
              go_wp2_with fail
              go_cut [] from 28 to 93 (fun wx => ∃ (ka : Option Addr) (kn kc : Nat), Hid (wx.heap[wr.heap.size]? = some (.cells #[.int .u64 x0.b, .slice ka kn kc, .int .i64 x0.n, .int .u64 x0.lo, .int .u64 x0.hi] 73)) ∧ Hid (Kd.R (Kd.int .i64) 3 wx 0 (fun _ => True) (.slice ka kn kc) (kd.take r ++ (child : Int) :: kd.drop r)) ∧ Hid (∀ q, (Value.slice ka kn kc).ownBlock = some q → wr.heap.size ≤ q) ∧ Hid (Fr (fun _ => False) wr wx))
              case first =>
                have hdr : wc.drew.heap.size = wc.heap.size := rfl
                go_region_law (first
                  | (go_simp; go_at_call 50; refine (HRK.out _).mono ?_; rintro e w' ⟨rfl, rfl⟩)
                  | (go_simp; go_at_call 55; first
                      | (refine (clone_calls wc.drew (R_fr HKK.out (Fr.refl _ wc).drew (fun _ _ h => h)) (by have := HRL.out; omega)).mono ?_; rintro e w4 ⟨v', rfl, hR4, hf4⟩; obtain ⟨A2, c2, rfl⟩ := R_form hR4; have HB4 := Lib.hid (hf4.blk (blk_drew HB1.out) (fun h => h)); have HN4 := Lib.hid ((Fr.refl _ wc).drew.trans hf4); have HVB : Hid (w4.heap.size = w4.heap.size) := Lib.hid rfl; have HR4 : Hid (Kd.R (Kd.int .i64) 3 w4 wc.heap.size (fun _ => True) (.slice A2 kd.length c2) kd) := Lib.hid hR4; have HNV : Hid (w4.heap.size = w4.heap.size) := Lib.hid rfl; clear hR4 hf4; clear r0 r1 r2 r3 r4 g0 g1 g2 g3 g4; obtain ⟨r0, r1, r2, r3, r4⟩ := nd_cells HB4.out; have g0 := blk_frozen HB4.out 0; have g1 := blk_frozen HB4.out 1; have g2 := blk_frozen HB4.out 2; have g3 := blk_frozen HB4.out 3; have g4 := blk_frozen HB4.out 4; have hbl4 := blk_lt HB4.out; have hsz4 := HN4.out.size)
                      | (refine (clone_calls (wc.drew.alloc (.cells #[.int .i64 child] 3)) (R_fr HKK.out ((Fr.refl _ wc).drew.alloc _) (fun _ _ h => h)) (by have := HRL.out; omega)).mono ?_; rintro e w4 ⟨v', rfl, hR4, hf4⟩; obtain ⟨A2, c2, rfl⟩ := R_form hR4; have HB4 := Lib.hid (hf4.blk (blk_alloc (blk_drew HB1.out) _) (fun h => h)); have HN4 := Lib.hid (((Fr.refl _ wc).drew.alloc (.cells #[.int .i64 child] 3)).trans hf4); have HVB : Hid (w4.heap[wc.heap.size]? = some (.cells #[.int .i64 child] 3 (0, 0))) := Lib.hid (hf4.blk (blk_new wc.drew _) (fun h => h)); have HNV : Hid ((Value.slice A2 kd.length c2).ownBlock ≠ some wc.heap.size) := Lib.hid (fun e => absurd (R_ge hR4 _ e) (by simp)); have HR4 : Hid (Kd.R (Kd.int .i64) 3 w4 wc.heap.size (fun _ => True) (.slice A2 kd.length c2) kd) := Lib.hid (R_base (R_base0 hR4) (fun q hq => Nat.le_trans (by simp) (R_ge hR4 q hq))); clear hR4 hf4; clear r0 r1 r2 r3 r4 g0 g1 g2 g3 g4; obtain ⟨r0, r1, r2, r3, r4⟩ := nd_cells HB4.out; have g0 := blk_frozen HB4.out 0; have g1 := blk_frozen HB4.out 1; have g2 := blk_frozen HB4.out 2; have g3 := blk_frozen HB4.out 3; have g4 := blk_frozen HB4.out 4; have hbl4 := blk_lt HB4.out; have hsz4 := HN4.out.size))
                  | (go_simp; go_at_call 54; first
                      | (refine (insert_calls (base := wc.heap.size) w4 HR4.out (by have := HRL.out; omega) r (by have := HRL.out; omega) (child : Int) wc.heap.size _ HVB.out HNV.out (by omega)).mono ?_; rintro e w5 ⟨v5, rfl, hR5, ho5, hf5⟩; obtain ⟨A5, c5, rfl⟩ := R_form hR5; obtain ⟨n5, hn5⟩ : ∃ n5, n5 = (kd.take r ++ (child : Int) :: kd.drop r).length := ⟨_, rfl⟩; rw [← hn5] at hR5 ⊢; clear hn5; have HB5 := Lib.hid (hf5.blk HB4.out (fun e => absurd (R_ge HR4.out _ e) (by omega))); have HN5 := Lib.hid (HN4.out.trans_of hf5 (fun q hq e => absurd (R_ge HR4.out _ e) (by omega))); have HR5 := Lib.hid hR5; clear hR5 hf5 ho5; clear r0 r1 r2 r3 r4 g0 g1 g2 g3 g4; obtain ⟨r0, r1, r2, r3, r4⟩ := nd_cells HB5.out; have g0 := blk_frozen HB5.out 0; have g1 := blk_frozen HB5.out 1; have g2 := blk_frozen HB5.out 2; have g3 := blk_frozen HB5.out 3; have g4 := blk_frozen HB5.out 4)
                      | (refine (insert_calls (base := wc.heap.size) (w4.alloc (.cells #[.int .i64 child] 3)) (R_base (R_fr (R_base0 HR4.out) ((Fr.refl (fun _ => False) w4).alloc _) (fun _ _ h => h)) (fun q hq => R_ge HR4.out q hq)) (by have := HRL.out; omega) r (by have := HRL.out; omega) (child : Int) w4.heap.size _ (blk_new w4 _) (fun e => by obtain ⟨_, hc⟩ := own_blk (Kd.own_of_R (R_base0 HR4.out)) _ e; exact absurd (blk_lt hc) (Nat.lt_irrefl _)) (by simp; omega)).mono ?_; rintro e w5 ⟨v5, rfl, hR5, ho5, hf5⟩; obtain ⟨A5, c5, rfl⟩ := R_form hR5; obtain ⟨n5, hn5⟩ : ∃ n5, n5 = (kd.take r ++ (child : Int) :: kd.drop r).length := ⟨_, rfl⟩; rw [← hn5] at hR5 ⊢; clear hn5; have HB5 := Lib.hid (hf5.blk (blk_alloc HB4.out _) (fun e => absurd (R_ge HR4.out _ e) (by omega))); have HN5 := Lib.hid ((HN4.out.alloc _).trans_of hf5 (fun q hq e => absurd (R_ge HR4.out _ e) (by omega))); have HR5 := Lib.hid hR5; clear hR5 hf5 ho5; clear r0 r1 r2 r3 r4 g0 g1 g2 g3 g4; obtain ⟨r0, r1, r2, r3, r4⟩ := nd_cells HB5.out; have g0 := blk_frozen HB5.out 0; have g1 := blk_frozen HB5.out 1; have g2 := blk_frozen HB5.out 2; have g3 := blk_frozen HB5.out 3; have g4 := blk_frozen HB5.out 4)))
                all_goals go_simp
                all_goals go_wp2_with fail
                all_goals go_meet
                all_goals exact ⟨A5, n5, c5, Lib.hid (blk_set HB5.out 1 _), Lib.hid (R_fr (R_base0 HR5.out) ((Fr.refl (One wr.heap.size) w5).set (One.self _) 1 _) (fun q hq e => by have h1 := R_ge HR5.out q hq; have h2 : q = wr.heap.size := e; omega)), Lib.hid (fun q hq => Nat.le_trans hsl (R_ge HR5.out q hq)), Lib.hid ((HF1x.out.trans HN5.out).setN (Nat.le_refl _) _ _)⟩
              case rest =>
                obtain ⟨ka, kn, kc, HB6, HR6, HO6, HF6⟩ := hcut
                clear r0 r1 r2 r3 r4 g0 g1 g2 g3 g4
                obtain ⟨r0, r1, r2, r3, r4⟩ := nd_cells HB6.out
                have g0 := blk_frozen HB6.out 0; have g1 := blk_frozen HB6.out 1; have g2 := blk_frozen HB6.out 2; have g3 := blk_frozen HB6.out 3; have g4 := blk_frozen HB6.out 4
                go_wp2_with (go_at_call 56; refine (HST.out _).mono ?_; rintro e w' ⟨rfl, rfl⟩)
                go_meet
                have hfw : Nw wr (wc.setCell ⟨wr.heap.size, 0, none⟩ (.int .u64 (setN x0.b (dig i k : Nat) : Nat))) := HF6.out.setN (Nat.le_refl _) _ _
                have hne : ∀ q, (Value.slice ka kn kc).ownBlock = some q → q ≠ wr.heap.size := fun q hq => by obtain ⟨_, hc⟩ := own_blk (Kd.own_of_R HR6.out) q hq; exact typ_ne hc HB6.out (by decide)
                refine ⟨⟨setN x0.b (dig i k : Nat), ka, kn, kc, x0.n, x0.lo, x0.hi⟩, Lib.hid (blk_set HB6.out 0 _), Lib.hid ((HOK0.out.kept hfw (fun _ _ h => h) (Ext.refl _ _)).mid_new HUP.out HKL.out hi9 hz ?_ ?_), Lib.hid hfw⟩
                · have e := R_fr HR6.out ((Fr.refl (One wr.heap.size) wc).set (One.self _) 0 (.int .u64 (setN x0.b (dig i k : Nat) : Nat))) (fun q hq => hne q hq)
                  rw [← HKD.out, ← HR.out, ← HCH.out (by omega)]
                  exact e
                · intro q hq e
                  have h1 := HO6.out q hq
                  obtain ⟨_, hc⟩ := own_blk (Kd.own_of_R HLI.out.pl.fre) q e
                  have := blk_lt hc
                  omega
        case rest =>
          obtain ⟨x1, HB2, HMID, HF2x⟩ := hcut
          clear r0 r1 r2 r3 r4 HGT HST HRK HBT HB1 HF1x
          obtain ⟨r0, r1, r2, r3, r4⟩ := nd_cells HB2.out
          have g0 := blk_frozen HB2.out 0; have g1 := blk_frozen HB2.out 1; have g2 := blk_frozen HB2.out 2; have g3 := blk_frozen HB2.out 3; have g4 := blk_frozen HB2.out 4
          have hbl2 := blk_lt HB2.out
          have hNOK := HMID.out.grown HUP.out HKL.out
          have hcls : (cls l i (pre i k)).length ≤ l.length := List.length_filter_le _ _
          have hcb : ∀ y, y ∈ cls l i (pre i k) → y < 18446744073709551616 := fun y hy => HBD.out y ((mem_cls l i _ y).1 hy).1
          have hx1n : x1.n ≤ 1000000 := by rw [HMID.out.n]; omega
          have hx1l : x1.lo < 18446744073709551616 := by
            rw [HMID.out.lo]
            by_cases e : cls l i (pre i k) = []
            · rw [e]; decide
            · exact hcb _ (head_mem e 0)
          have hx1h : x1.hi < 18446744073709551616 := by
            rw [HMID.out.hi]
            by_cases e : cls l i (pre i k) = []
            · rw [e]; decide
            · exact hcb _ (last_mem e 0)
          have HGR := Lib.hid (fun w' => tgrown_calls x1 k w' hx1n hk hx1l hx1h)
          have HNOK := Lib.hid hNOK
          clear hNOK hcls hcb hx1n hx1l hx1h
          obtain ⟨x2, hx2⟩ : ∃ x2, x2 = grownN x1 k := ⟨_, rfl⟩
          rw [← hx2] at HGR HNOK
          clear hx2
          go_upto_if 73 with (go_at_call 57; refine (HGR.out _).mono ?_; rintro e w4 ⟨rfl, hf4⟩; have hb3 := hf4.blk HB2.out (fun h => h); clear r0 r1 r2 r3 r4 g0 g1 g2 g3 g4; obtain ⟨r0, r1, r2, r3, r4⟩ := nd_cells hb3; have g0 := blk_frozen hb3 0; have g1 := blk_frozen hb3 1; have g2 := blk_frozen hb3 2; have g3 := blk_frozen hb3 3; have g4 := blk_frozen hb3 4; have HB3 := Lib.hid hb3; have HF3x := Lib.hid (HF2x.out.trans hf4); have hNW4 := Lib.hid hf4; clear hb3 hf4)
          have hnb : ∀ q, (Value.slice x2.ka x2.kn x2.kc).ownBlock = some q → ¬ One wr.heap.size q := fun q hq => by obtain ⟨_, hc⟩ := own_blk (Kd.own_of_R HNOK.out.kids) q hq; exact typ_ne hc HB2.out (by decide)
          have HN5 := Lib.hid ((HNOK.out.kept hNW4.out (fun _ _ h => h) (Ext.refl _ _)).kept (fr_put5 w4 wr.heap.size x2) hnb (Ext.refl _ _))
          have HB5 := Lib.hid (blk_put5 HB3.out x2)
          have HF5 : Hid (Fr (fun _ => False) wr (((((w4.setCell ⟨wr.heap.size, 0, none⟩ (.int .u64 x2.b)).setCell ⟨wr.heap.size, 1, none⟩ (.slice x2.ka x2.kn x2.kc)).setCell ⟨wr.heap.size, 2, none⟩ (.int .i64 x2.n)).setCell ⟨wr.heap.size, 3, none⟩ (.int .u64 x2.lo)).setCell ⟨wr.heap.size, 4, none⟩ (.int .u64 x2.hi))) := Lib.hid (HF3x.out.trans_new (fr_put5 w4 wr.heap.size x2) (Nat.le_refl _))
          obtain ⟨w5, hw5⟩ : ∃ w5, w5 = (((((w4.setCell ⟨wr.heap.size, 0, none⟩ (.int .u64 x2.b)).setCell ⟨wr.heap.size, 1, none⟩ (.slice x2.ka x2.kn x2.kc)).setCell ⟨wr.heap.size, 2, none⟩ (.int .i64 x2.n)).setCell ⟨wr.heap.size, 3, none⟩ (.int .u64 x2.lo)).setCell ⟨wr.heap.size, 4, none⟩ (.int .u64 x2.hi)) := ⟨_, rfl⟩
          rw [← hw5] at HN5 HB5 HF5 ⊢
          clear hw5 hnb r0 r1 r2 r3 r4 g0 g1 g2 g3 g4 HB3 HF3x hNW4 HGR HNOK HMID HB2 HF2x hbl2
          have HLI5 := Lib.hid (HLI.out.nw HF5.out)
          obtain ⟨r0, r1, r2, r3, r4⟩ := nd_cells HB5.out
          have c1 : w5.cell? ⟨t, 1, none⟩ = some (.pointer (some ⟨p, 0, none⟩)) := blk_cell (HLI5.out.fr.blk HT3.out.blk (ps_typ HT3.out.pl HT3.out.blk (by decide) (by decide) (by decide))) 1
          cases fb with
          | true =>
            have hid : ¬ i < d := by have := of_decide_eq_true HFB.out.symm; omega
            have HRO2 : Hid (liveN rows' + 1 ≤ lim) := Lib.hid (by rw [HLI5.out.live]; have := HUS.out; have := HRO.out; omega)
            go_wp2_with fail
            go_region_law ((go_simp; go_at_call 58; refine (pl_alloc p m rows' free' lim cv' fv' _ (HLI5.out.pl.nw (Fr.refl _ _).drew) x2 HRO2.out).mono ?_; rintro e w6 ⟨cv2, fv2, rfl, hpl, hxc, hxf, hf6⟩; have HP6 := Lib.hid hpl; have HXC := Lib.hid hxc; have HXF := Lib.hid hxf; have HF6 := Lib.hid hf6; clear hpl hxc hxf hf6))
            all_goals go_wp2
            all_goals go_roundw
            any_goals (show (_ : Nat) < _; simp only [intOf]; omega)
            all_goals (
                 have hpa := put_at rows' free' x2 HLI5.out.pl
                 have hz := li_step (a := nxt rows' free') HLI5.out HUP.out HKL.out hi10 HD.out HN5.out HP6.out HXC.out HXF.out ((Fr.refl _ w5).drew.trans HF6.out) (fun h => absurd h hid) (fun _ => hpa.2.2.1) hpa.1 hpa.2.1 (by rw [live_put HLI5.out.pl HP6.out, HLI5.out.live]; exact ar1 hid hi10 hd11)
                 exact ⟨i, nxt rows' free', _, _, _, _, _, by omega, rfl, rfl, Lib.hid hz, Lib.hid (fun _ => (if_pos ⟨rfl, rfl⟩).symm)⟩)
          | false =>
            have hid : i < d := by have := of_decide_eq_false HFB.out.symm; omega
            obtain ⟨gA, hA, hcA⟩ : ∃ g, A = some ⟨g, 0, none⟩ ∧ w5.cell? ⟨g, i, none⟩ = some (.int .i64 (ad i (pre i k) : Nat)) := by
              have ho := Kd.own_of_R HR3.out
              rw [way_len] at ho
              rcases ho.2 with ⟨_, e⟩ | ⟨g, cap, cur, e, _, hg, _⟩
              · omega
              · simp only [Value.slice.injEq] at e
                obtain ⟨rfl, _, rfl⟩ := e
                refine ⟨g, rfl, HLI5.out.fr.cell ?_ ?_⟩
                · rw [ho.cellAt _ (by omega)]
                  simp only [encs, List.getElem?_map, way_get ad k d i hid, Option.map_some]
                · exact ps_kid HT3.out.pl g ⟨HGA.out g rfl, cur, hg⟩
            subst hA
            go_wp2_with fail
            go_region_law ((go_simp; go_at_call 59; refine (pl_put p m rows' free' lim cv' fv' _ (HLI5.out.pl.nw (Fr.refl _ _).drew) _ x0 x2 (HX1.out hid)).mono ?_; rintro e w6 ⟨rfl, hpl, hf6⟩; have HP6 := Lib.hid hpl; have HF6 := Lib.hid hf6; clear hpl hf6))
            all_goals go_wp2
            all_goals go_roundw
            any_goals (show (_ : Nat) < _; simp only [intOf]; omega)
            all_goals (
                 have hlt := (List.getElem?_eq_some_iff.1 (HX1.out hid)).1
                 have hlv := liveN_set rows' (ad i (pre i k)) (some x2) _ (HX1.out hid)
                 have hz := li_step (a := ad i (pre i k)) HLI5.out HUP.out HKL.out hi10 HD.out HN5.out HP6.out (Ext.refl _ _) (Ext.refl _ _) ((Fr.refl _ w5).drew.trans HF6.out) (fun _ => rfl) (fun h => absurd hid h) (List.getElem?_set_self hlt) (fun b y hb h => by rw [List.getElem?_set_ne (fun e => hb e.symm)]; exact h) (by simp only [Option.isSome_some, if_true] at hlv; rw [HLI5.out.live] at hlv; exact ar2 hid hlv)
                 exact ⟨i, ad i (pre i k), _, _, _, _, _, by omega, rfl, rfl, Lib.hid hz, Lib.hid (fun _ => (if_pos ⟨rfl, rfl⟩).symm)⟩)
end Go.Proofs.YtnhdcefoigmjpaaDoor

/-
  The contract of a trie's Insert where the key is there already, or doesn't fit.
-/

namespace Go.Proofs.YtnhdcefoigmjpaaDoor
open Go.RowKit Go.Proofs.YtnhdcefoigmjpaaDoorW.PrintWords Go.Proofs.YtnhdcefoigmjpaaDoorW.PrintMore
attribute [local go_sem] max2_int min2_int max_two min_two
set_option linter.unusedVariables false
set_option linter.unusedSimpArgs false
set_option maxRecDepth 100000 in
set_option maxHeartbeats 2000000 in
theorem tins_there (t m p lim root : Nat) (l : List Nat) (ad : Ad) (rows : List (Option Nd)) (free : List Nat) (cv fv : Value) (tk : Int) (w : World) (h : TI w t m p l lim ad rows free cv fv root) (hm : MT w m tk) (k : Nat) (hk : k < 18446744073709551616) (hkl : k ∈ l) :
    Calls Tryd.prog 23 #[.pointer (some ⟨t, 0, none⟩), .int .u64 k] w fun e w' => e = .returned (.int .i64 4) ∧ TI w' t m p l lim ad rows free cv fv root ∧ (∃ tk' : Int, 0 ≤ tk' ∧ tk' ≤ 22 ∧ MT w' m tk') ∧ Fr (One m) w w' := by
  have HH := Lib.hid (thas_calls t m p lim root l ad rows free cv fv tk w h hm k hk)
  have HKF : Hid (decide (k ∈ l) = true) := Lib.hid (decide_eq_true hkl)
  clear h hm hkl
  go_enter Tryd.func23, Tryd.ntmps23
  go_wp2_with (first
    | (go_at_call 26; refine HH.out.mono ?_; rintro e w1 ⟨rfl, ht1, ⟨tk1, q1, q2, hm1⟩, hf1⟩; rw [HKF.out]; have HT1 := Lib.hid ht1; have HM1 := Lib.hid hm1; have HF1 := Lib.hid hf1; clear ht1 hm1 hf1))
  go_ret
  exact ⟨rfl, HT1.out, ⟨_, q1, by omega, HM1.out⟩, HF1.out⟩
set_option maxRecDepth 100000 in
set_option maxHeartbeats 2000000 in
theorem tins_full (t m p lim root : Nat) (l : List Nat) (ad : Ad) (rows : List (Option Nd)) (free : List Nat) (cv fv : Value) (tk : Int) (w : World) (h : TI w t m p l lim ad rows free cv fv root) (hm : MT w m tk) (k : Nat) (hk : k < 18446744073709551616) (hkl : k ∉ l) (hfull : lim < used (insS l k)) :
    Calls Tryd.prog 23 #[.pointer (some ⟨t, 0, none⟩), .int .u64 k] w fun e w' => e = .returned (.int .i64 5) ∧ TI w' t m p l lim ad rows free cv fv root ∧ (∃ tk' : Int, 0 ≤ tk' ∧ tk' ≤ 22 ∧ MT w' m tk') ∧ Fr (One m) w w' := by
  obtain ⟨d, hd0⟩ := depth_exists l k
  have hd : Dep l k d := hd0
  have hus := used_ins h.up hkl hd.1 hd.2
  have hd11 := hd.1
  have HH := Lib.hid (thas_calls t m p lim root l ad rows free cv fv tk w h hm k hk)
  have HKF : Hid (decide (k ∈ l) = false) := Lib.hid (decide_eq_false hkl)
  have HRM : Hid (decide (liveN rows + (11 - d) ≤ lim) = false) := Lib.hid (decide_eq_false (by rw [h.live]; omega))
  have HCA : Hid ((11 : Int) - (d : Int) = ((11 - d : Nat) : Int)) := Lib.hid (by omega)
  have HD := Lib.hid hd
  clear h hm hkl hd hd0 hus hfull
  go_enter Tryd.func23, Tryd.ntmps23
  go_wp2_with (first
    | (go_at_call 26; refine HH.out.mono ?_; rintro e w1 ⟨rfl, ht1, ⟨tk1, q1, q2, hm1⟩, hf1⟩; rw [HKF.out]; have HT1 := Lib.hid ht1; have HM1 := Lib.hid hm1; have HF1 := Lib.hid hf1; clear ht1 hm1 hf1)
    | (go_at_call 52; refine (tpath_calls t m p lim root l ad rows free cv fv tk1 _ HT1.out HM1.out q1 (by omega) k d hk HD.out).mono ?_; rintro e w2 ⟨v', rfl, hR, hm2, hf2⟩; obtain ⟨A, cp, rfl⟩ := R_form hR; rw [way_len] at hR ⊢; have HT2 := Lib.hid (HT1.out.meter HM1.out hf2); have HM2 := Lib.hid hm2; have HF2 := Lib.hid (HF1.out.trans hf2); have c1 : w2.cell? ⟨t, 1, none⟩ = some (.pointer (some ⟨p, 0, none⟩)) := blk_cell HT2.out.blk 1; clear hR hm2 hf2)
    | (go_at_call 53; rw [HCA.out]; refine (pl_room p m rows free lim cv fv _ HT2.out.pl (11 - d) (by omega)).mono ?_; rintro e w3 ⟨rfl, hf3⟩; rw [HRM.out]; have HT3 := Lib.hid (HT2.out.nw hf3); have HM3 := Lib.hid (HM2.out.fr hf3 (fun h => h)); have HF3 := Lib.hid (HF2.out.trans (hf3.mono (fun _ _ h => h.elim))); clear hf3 c1))
  go_ret
  exact ⟨rfl, HT3.out, ⟨_, by omega, by omega, HM3.out⟩, HF3.out⟩
end Go.Proofs.YtnhdcefoigmjpaaDoor

