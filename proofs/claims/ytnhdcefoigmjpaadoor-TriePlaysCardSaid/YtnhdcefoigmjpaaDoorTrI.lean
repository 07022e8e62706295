/-
  Merged by merge.py: TrDel TrBounds TrDelete TrTop2.
-/
import Derived.Test.YtnhdcefoigmjpaaDoorTrG
import Derived.Deep.CutRange
/-
  What a key less makes of a trie: plain facts ahead of Delete's walk.
-/

namespace Go.Proofs.YtnhdcefoigmjpaaDoor
open Go.RowKit Go.Proofs.YtnhdcefoigmjpaaDoorW.PrintWords Go.Proofs.YtnhdcefoigmjpaaDoorW.PrintMore
set_option linter.unusedVariables false
set_option linter.unusedSimpArgs false

theorem NdOk.del_old {W : World} {fv : Value} {ad : Ad} {l : List Nat} {i k : Nat} {x : Nd} (hl : Up l) (hk : k ∉ l) (hi : i < 10) (h : NdOk W fv ad (insS l k) i (pre i k) x) (hz : ∃ z, z ∈ l ∧ pre (i + 1) z = pre (i + 1) k) : Mid W fv ad (insS l k) l i (pre i k) x := by
  obtain ⟨e1, e2⟩ := kid_old ad ad hl hk i (pre i k) (by omega) (fun _ => hz) (fun _ _ => rfl)
  exact ⟨by rw [← e1]; exact h.b, h.n, h.lo, h.hi, by have := h.kids; rw [if_pos hi] at this ⊢; rw [← e2]; exact this, h.apart⟩
/-- A bit cleared, and (above the last level) a child taken out. -/
theorem NdOk.del_gone {W : World} {fv : Value} {ad : Ad} {l : List Nat} {i k : Nat} {x : Nd} {ka : Option Addr} {kn kc : Nat} (hl : Up l) (hk : k ∉ l) (hi : i < 10) (h : NdOk W fv ad (insS l k) i (pre i k) x) (hz : ¬ ∃ z, z ∈ l ∧ pre (i + 1) z = pre (i + 1) k)
    (hR : Kd.R (Kd.int .i64) 3 W 0 (fun _ => True) (.slice ka kn kc) ((kidC ad (insS l k) i (pre i k)).take (rankL (listW x.b) (dig i k : Nat)) ++ (kidC ad (insS l k) i (pre i k)).drop (rankL (listW x.b) (dig i k : Nat) + 1)))
    (hap : ∀ q, (Value.slice ka kn kc).ownBlock = some q → fv.ownBlock ≠ some q) : Mid W fv ad (insS l k) l i (pre i k) ⟨clrN x.b (dig i k : Nat), ka, kn, kc, x.n, x.lo, x.hi⟩ := by
  obtain ⟨e1, e2⟩ := kid_gone ad hl hk i (by omega) (fun z hz2 e => hz ⟨z, hz2, e⟩)
  refine ⟨by rw [e1, h.b], h.n, h.lo, h.hi, ?_, hap⟩
  rw [if_pos hi, e2, ← h.b]; exact hR
theorem NdOk.del_ten {W : World} {fv : Value} {ad : Ad} {l : List Nat} {k : Nat} {x : Nd} (hl : Up l) (hk : k ∉ l) (h : NdOk W fv ad (insS l k) 10 (pre 10 k) x) : Mid W fv ad (insS l k) l 10 (pre 10 k) ⟨clrN x.b (dig 10 k : Nat), x.ka, x.kn, x.kc, x.n, x.lo, x.hi⟩ := by
  obtain ⟨e1, _⟩ := kid_gone ad hl hk 10 (Nat.le_refl _) (fun z hz2 e => hk (by rw [pre_key, pre_key] at e; rwa [← e]))
  exact ⟨by rw [e1, h.b], h.n, h.lo, h.hi, h.kids, h.apart⟩
theorem Mid.cnt {W : World} {fv : Value} {ad : Ad} {l : List Nat} {i k : Nat} {x : Nd} (hl : Up l) (hk : k ∉ l) (h : Mid W fv ad (insS l k) l i (pre i k) x) : x.n = (cls l i (pre i k)).length + 1 := by
  rw [h.n, cls_ins hl hk, if_pos rfl, len_insS]
theorem Mid.shrunk {W : World} {fv : Value} {ad : Ad} {l : List Nat} {i k lo hi n : Nat} {x : Nd} (hl : Up l) (hk : k ∉ l) (h : Mid W fv ad (insS l k) l i (pre i k) x) (hn : x.n = n + 1) (hlo : lo = (cls l i (pre i k)).headD 0) (hhi : hi = (cls l i (pre i k)).getLastD 0) : NdOk W fv ad l i (pre i k) ⟨x.b, x.ka, x.kn, x.kc, n, lo, hi⟩ :=
  ⟨h.b, by have := h.cnt hl hk; show n = _; omega, hlo, hhi, h.kids, h.apart⟩
theorem Mid.gone {W : World} {fv : Value} {ad : Ad} {l l2 : List Nat} {i k d : Nat} {x : Nd} (hd : Dep l k d) (hi : i ≤ 10) (h : Mid W fv ad l2 l i (pre i k) x) : (x.b = 0) ↔ d ≤ i := by
  rw [h.b, bits_zero]
  constructor
  · intro e
    rcases Nat.lt_or_ge i d with h1 | h1
    · obtain ⟨z, hz, e2⟩ := (hd.2 i (by omega)).2 h1
      have : z ∈ cls l i (pre i k) := (mem_cls l i _ z).2 ⟨hz, e2⟩
      rw [e] at this; cases this
    · exact h1
  · intro e
    refine List.eq_nil_iff_forall_not_mem.2 (fun z hz => ?_)
    have := (hd.2 i (by omega)).1 ⟨z, (mem_cls l i _ z).1 hz⟩
    omega
/-- What the loop of Delete keeps: levels from j on are those of the keys without k. -/
structure DI (W0 W : World) (m p : Nat) (l : List Nat) (k d j lim : Nat) (ad : Ad) (rows' : List (Option Nd)) (free' : List Nat) (cv fv fv' : Value) : Prop where
  ni : NI W fv' ad (fun i => if j ≤ i then l else insS l k) rows'
  pl : Pl W p m rows' free' lim cv fv'
  live : liveN rows' + (11 - max d j) = used (insS l k)
  xf : Ext W0.heap.size fv fv'
  fr : Fr (PS p cv fv) W0 W
theorem DI.nw {W0 W W1 : World} {m p lim d k j : Nat} {l : List Nat} {ad : Ad} {rows' : List (Option Nd)} {free' : List Nat} {cv fv fv' : Value} (h : DI W0 W m p l k d j lim ad rows' free' cv fv fv') (hf : Nw W W1) : DI W0 W1 m p l k d j lim ad rows' free' cv fv fv' :=
  ⟨h.ni.kept hf (fun _ _ h => h) (Ext.refl _ _), h.pl.nw hf, h.live, h.xf, h.fr.trans (hf.mono (fun _ _ h => h.elim))⟩
theorem DI.fr_trans {W0 W W6 : World} {m p lim d k j : Nat} {l : List Nat} {ad : Ad} {rows' : List (Option Nd)} {free' : List Nat} {cv fv fv' : Value} (hl : DI W0 W m p l k d j lim ad rows' free' cv fv fv') (hfr : Fr (PS p cv fv') W W6) : Fr (PS p cv fv) W0 W6 :=
  hl.fr.trans_of hfr (fun q hq hp => by
    rcases hp with e | e | e
    · exact .inl e
    · exact .inr (.inl e)
    · rcases hl.xf q e with h | h
      · exact .inr (.inr h)
      · omega)
/-- A level whose node stays. -/
theorem di_put {W0 W W6 : World} {m p lim d k i : Nat} {l : List Nat} {ad : Ad} {rows' rows2 : List (Option Nd)} {free' : List Nat} {cv fv fv' : Value} {x2 : Nd} (hl : DI W0 W m p l k d (i + 1) lim ad rows' free' cv fv fv') (hup : Up l) (hkl : k ∉ l) (hi : i ≤ 10) (hd : Dep l k d) (hid : i < d)
    (hnok : NdOk W fv' ad l i (pre i k) x2) (hpl : Pl W6 p m rows2 free' lim cv fv') (hfr : Fr (PS p cv fv') W W6)
    (hrx : rows2[ad i (pre i k)]? = some (some x2)) (hro : ∀ b y, b ≠ ad i (pre i k) → rows'[b]? = some (some y) → rows2[b]? = some (some y)) (hlive : liveN rows2 = liveN rows') :
    DI W0 W6 m p l k d i lim ad rows2 free' cv fv fv' := by
  have hLi : (if i + 1 ≤ i then l else insS l k) = insS l k := if_neg (by omega)
  obtain ⟨z, hz, ez⟩ := (hd.2 i (by omega)).2 hid
  have hput := hl.ni.put (S := PS p cv fv') (W1 := W6) (fv' := fv') (ad' := ad) (rows' := rows2) i hi z (ad i (pre i k)) l x2 hz
    (fun y hy hne => by
      rw [hLi, cls_ins hup hkl, if_neg (fun e => hne (by rw [ez, e]))]
      exact ⟨(mem_insS l k y).2 (.inr hy), rfl⟩)
    (fun i' e y hy => by rw [if_neg (by omega)] at hy; rw [hLi]; exact hy)
    (fun i' q => by split <;> rename_i e <;> first | rw [e.1, e.2, ez] | rfl)
    (fun _ => by rw [ez])
    (fun i' hi' y hy e => by
      have h1 := hl.ni.inj i' i hi' hi y hy k (by rw [hLi]; exact (mem_insS l k k).2 (.inl rfl)) e
      exact ⟨h1.1, by rw [h1.2, ez]⟩)
    hrx hro hfr (fun q hq => ps_kid hl.pl q hq) (Ext.refl _ _)
    (by rw [ez]; exact hnok.kept hfr (fun q hq => ps_kid hl.pl q (hnok.kidB hq)) (Ext.refl _ _))
  refine ⟨hput.congr (fun i' hi' => ?_), hpl, ?_, hl.xf, hl.fr_trans hfr⟩
  · by_cases e : i' = i
    · rw [if_pos e, if_pos (by omega)]
    · rw [if_neg e]
      by_cases e2 : i ≤ i'
      · rw [if_pos e2, if_pos (by omega)]
      · rw [if_neg e2, if_neg (by omega)]
  · have := hl.live
    rw [hlive]; omega
/-- A level whose node goes. -/
theorem di_free {W0 W W6 : World} {m p lim d k i : Nat} {l : List Nat} {ad : Ad} {rows' : List (Option Nd)} {free' : List Nat} {cv fv fv' fv2 : Value} {x0 : Nd} (hl : DI W0 W m p l k d (i + 1) lim ad rows' free' cv fv fv') (hup : Up l) (hkl : k ∉ l) (hi : i ≤ 10) (hd : Dep l k d) (hid : d ≤ i)
    (hx0 : rows'[ad i (pre i k)]? = some (some x0)) (hpl : Pl W6 p m (rows'.set (ad i (pre i k)) none) (free' ++ [ad i (pre i k)]) lim cv fv2) (hxf : Ext W.heap.size fv' fv2) (hfr : Fr (PS p cv fv') W W6) :
    DI W0 W6 m p l k d i lim ad (rows'.set (ad i (pre i k)) none) (free' ++ [ad i (pre i k)]) cv fv fv2 := by
  have hLi : (if i + 1 ≤ i then l else insS l k) = insS l k := if_neg (by omega)
  have hki : k ∈ (fun i' => if i + 1 ≤ i' then l else insS l k) i := by show k ∈ (if i + 1 ≤ i then l else insS l k); rw [hLi]; exact (mem_insS l k k).2 (.inl rfl)
  have hdrop := hl.ni.drop (S := PS p cv fv') (W1 := W6) (fv' := fv2) (rows' := rows'.set (ad i (pre i k)) none) i hi k l hki
    (fun y hy => by
      have hne : pre i y ≠ pre i k := fun e => by have := (hd.2 i (by omega)).1 ⟨y, hy, e⟩; omega
      refine ⟨hne, ?_⟩
      rw [hLi, cls_ins hup hkl, if_neg (fun e => hne e.symm)]
      exact ⟨(mem_insS l k y).2 (.inr hy), rfl⟩)
    (fun b y hb h => by rw [List.getElem?_set_ne (fun e => hb e.symm)]; exact h)
    (fun i' hi' hne y hy e => hne ((hl.ni.inj i' i hi' hi y hy k hki e).1))
    hfr (fun q hq => ps_kid hl.pl q hq) hxf
  have hlv := liveN_set rows' (ad i (pre i k)) none _ hx0
  simp only [Option.isSome_some, if_true, Option.isSome_none] at hlv
  refine ⟨hdrop.congr (fun i' hi' => ?_), hpl, ?_, hl.xf.trans hxf hl.fr.size, hl.fr_trans hfr⟩
  · by_cases e : i' = i
    · rw [if_pos e, if_pos (by omega)]
    · rw [if_neg e]
      by_cases e2 : i ≤ i'
      · rw [if_pos e2, if_pos (by omega)]
      · rw [if_neg e2, if_neg (by omega)]
  · have := hl.live
    simp at hlv
    have := hd.1
    omega
theorem di_meter {W0 W : World} {m p lim d k j : Nat} {l : List Nat} {ad : Ad} {rows rows' : List (Option Nd)} {free free' : List Nat} {cv fv fv' : Value} {tk : Int} (h : Pl W0 p m rows free lim cv fv) (hm : MT W0 m tk) (hl : DI W0 W m p l k d j lim ad rows' free' cv fv fv') : MT W m tk := by
  obtain ⟨a, b, c, e, hb⟩ := hm
  exact ⟨a, b, c, e, hl.fr.blk hb (ps_typ h hb (by decide) (by decide) (by decide))⟩
/-- The whole of Delete: the first node's number stays (of no key, it does not matter), and the keys are one less. -/
theorem td_done {W0 W : World} {t m p lim root d k : Nat} {l : List Nat} {ad : Ad} {rows rows' : List (Option Nd)} {free free' : List Nat} {cv fv fv' : Value} (h : TI W0 t m p (insS l k) lim ad rows free cv fv root) (hl : DI W0 W m p l k d 0 lim ad rows' free' cv fv fv')
    (hup : Up l) (hkl : k ∉ l) (hus : used (insS l k) = used l + (11 - d)) :
    TI (W.setCell ⟨t, 3, none⟩ (.int .i64 (l.length : Nat))) t m p l lim ad rows' free' cv fv' root ∧ Fr (TS t m p cv fv) W0 (W.setCell ⟨t, 3, none⟩ (.int .i64 (l.length : Nat))) := by
  have hbt := hl.fr.blk h.blk (ps_typ h.pl h.blk (by decide) (by decide) (by decide))
  have hF : Fr (One t) W (W.setCell ⟨t, 3, none⟩ (.int .i64 (l.length : Nat))) := (Fr.refl _ _).set (One.self t) _ _
  have hmem : ∀ x, x ∈ l → x ∈ insS l k := fun x hx => (mem_insS l k x).2 (.inr hx)
  refine ⟨⟨blk_set hbt 3 _, hl.pl.fr hF (typ_ne hl.pl.blk hbt (by decide)) (fun q hq => ?_) (fun q hq => ?_), (hl.ni.congr (fun i _ => by rw [if_pos (Nat.zero_le i)])).kept hF (fun q hq => ?_) (Ext.refl _ _), by have := hl.live; omega, hup, fun x hx => h.bd x (hmem x hx), by have := h.len; rw [len_insS] at this; omega, fun hne => h.root (fun e => by have := len_insS l k; rw [e] at this; simp at this)⟩, ?_⟩
  · obtain ⟨_, hc⟩ := own_blk hl.pl.own q hq
    exact typ_ne hc hbt (by decide)
  · obtain ⟨_, hc⟩ := own_blk (Kd.own_of_R hl.pl.fre) q hq
    exact typ_ne hc hbt (by decide)
  · obtain ⟨_, _, hc⟩ := hq
    exact typ_ne hc hbt (by decide)
  · exact (hl.fr.mono (fun q _ h => .inr (.inr h))).trans (hF.mono (fun q _ h => .inl h))
end Go.Proofs.YtnhdcefoigmjpaaDoor

/-
  The contract of a trie's bounds.
-/

namespace Go.Proofs.YtnhdcefoigmjpaaDoor
open Go.RowKit Go.Proofs.YtnhdcefoigmjpaaDoorW.PrintWords Go.Proofs.YtnhdcefoigmjpaaDoorW.PrintMore
attribute [local go_sem] max2_int min2_int max_two min_two
set_option linter.unusedVariables false
set_option linter.unusedSimpArgs false

theorem ends_ten {l : List Nat} (h : Up l) (p : Nat) (hne : cls l 10 p ≠ []) : ∃ a b : Nat, a < 64 ∧ b < 64 ∧ lowN (bitsC l 10 p) = (a : Nat) ∧ highN (bitsC l 10 p) = (b : Nat) ∧ (cls l 10 p).headD 0 = p * 64 + a ∧ (cls l 10 p).getLastD 0 = p * 64 + b := by
  obtain ⟨x, hx, _, e1, e2⟩ := head_kid (fun _ _ => 0) h 10 p (Nat.le_refl _) hne
  obtain ⟨y, hy, _, f1, f2⟩ := last_kid (fun _ _ => 0) h 10 p (Nat.le_refl _) hne
  obtain ⟨hx1, hx2⟩ := (mem_cls l 10 p x).1 hx
  obtain ⟨hy1, hy2⟩ := (mem_cls l 10 p y).1 hy
  refine ⟨dig 10 x, dig 10 y, dig_lt _ _, dig_lt _ _, e2, f2, ?_, ?_⟩
  · rw [e1, show (10 : Nat) + 1 = 11 from rfl, pre_key, cls_leaf h hx1]
    have := key_ten x; rw [hx2] at this; exact this
  · rw [f1, show (10 : Nat) + 1 = 11 from rfl, pre_key, cls_leaf h hy1]
    have := key_ten y; rw [hy2] at this; exact this

set_option maxRecDepth 100000 in
set_option maxHeartbeats 2000000 in
theorem tbounds_ten (t : Nat) (x : Nd) (k a b : Nat) (bs : Int) (w : World) (hbs : bs = bits .andNot .u64 (k : Int) 63) (hk : k < 18446744073709551616) (hT : Tb w) (hxb : x.b < 18446744073709551616) (ha : a < 64) (hb : b < 64) (hlo : lowN x.b = (a : Nat)) (hhi : highN x.b = (b : Nat)) :
    Calls Tryd.prog 63 #[.pointer (some ⟨t, 0, none⟩), (Value.agg #[Value.int IntKind.u64 (Nd.b x), Value.slice (Nd.ka x) (Nd.kn x) (Nd.kc x), Value.int IntKind.i64 (Nd.n x), Value.int IntKind.u64 (Nd.lo x), Value.int IntKind.u64 (Nd.hi x)]), .int .i64 10, .int .u64 bs] w fun e w' => e = .returned (Value.agg #[Value.int IntKind.u64 (Nd.b (⟨x.b, x.ka, x.kn, x.kc, x.n, pre 10 k * 64 + a, pre 10 k * 64 + b⟩ : Nd)), Value.slice (Nd.ka (⟨x.b, x.ka, x.kn, x.kc, x.n, pre 10 k * 64 + a, pre 10 k * 64 + b⟩ : Nd)) (Nd.kn (⟨x.b, x.ka, x.kn, x.kc, x.n, pre 10 k * 64 + a, pre 10 k * 64 + b⟩ : Nd)) (Nd.kc (⟨x.b, x.ka, x.kn, x.kc, x.n, pre 10 k * 64 + a, pre 10 k * 64 + b⟩ : Nd)), Value.int IntKind.i64 (Nd.n (⟨x.b, x.ka, x.kn, x.kc, x.n, pre 10 k * 64 + a, pre 10 k * 64 + b⟩ : Nd)), Value.int IntKind.u64 (Nd.lo (⟨x.b, x.ka, x.kn, x.kc, x.n, pre 10 k * 64 + a, pre 10 k * 64 + b⟩ : Nd)), Value.int IntKind.u64 (Nd.hi (⟨x.b, x.ka, x.kn, x.kc, x.n, pre 10 k * 64 + a, pre 10 k * 64 + b⟩ : Nd))]) ∧ Nw w w' := by
  have J1 := join_ten k a hk ha
  have J2 := join_ten k b hk hb
  rw [← hbs] at J1 J2
  have HL := Lib.hid (fun w' (h : Nw w w') => show Calls Tryd.prog 75 #[.int .u64 x.b] w' (fun e w'' => e = .returned (.int .i64 (a : Nat)) ∧ w' = w'') from by have := low_calls x.b w' hxb (Tb.fr hT h (fun h => h)); rw [hlo] at this; exact this)
  have HH := Lib.hid (fun w' => show Calls Tryd.prog 77 #[.int .u64 x.b] w' (fun e w'' => e = .returned (.int .i64 (b : Nat)) ∧ w' = w'') from by have := high_calls x.b w' hxb; rw [hhi] at this; exact this)
  have WA := u64w a (by omega)
  have WB := u64w b (by omega)
  have J1 := Lib.hid J1
  have J2 := Lib.hid J2
  clear hbs hk hT hxb hlo hhi
  go_enter Tryd.func63, Tryd.ntmps63
  go_wp2
  refine wp_still 6 (by kernel_rfl) (by kernel_rfl) ?_
  simp only [List.take_succ_cons, List.take_zero, List.drop_succ_cons, List.drop_zero]
  repeat still_step
  still_call (Calls.mono (HL.out _ (((Fr.refl _ _).alloc _).alloc _).drew) (fun _ _ h => ⟨h.1, h.2.symm⟩))
  repeat still_step
  still_call (Calls.mono (HH.out _) (fun _ _ h => ⟨h.1, h.2.symm⟩))
  repeat still_step
  refine wpStill_nil ?_
  go_wp2
  all_goals refine bodyPost_ret (by simp [results, Tryd.results63, go_sem]; try rfl) rfl ?_
  exact ⟨rfl, (((Fr.refl _ _).alloc _).alloc _).drew⟩
theorem fldlo (b : Int) (kv : Value) (n lo hi : Int) (w : World) : (Instr.field 73 (.agg #[.int .u64 b, kv, .int .i64 n, .int .u64 lo, .int .u64 hi]) 3).run Tryd.prog w = .ok (.int .u64 lo) w := by kernel_rfl
theorem fldhi (b : Int) (kv : Value) (n lo hi : Int) (w : World) : (Instr.field 73 (.agg #[.int .u64 b, kv, .int .i64 n, .int .u64 lo, .int .u64 hi]) 4).run Tryd.prog w = .ok (.int .u64 hi) w := by kernel_rfl
theorem fldn (b : Int) (kv : Value) (n lo hi : Int) (w : World) : (Instr.field 73 (.agg #[.int .u64 b, kv, .int .i64 n, .int .u64 lo, .int .u64 hi]) 2).run Tryd.prog w = .ok (.int .i64 n) w := by kernel_rfl
set_option maxRecDepth 100000 in
set_option maxHeartbeats 2000000 in
theorem tbounds_mid (t m p lim : Nat) (rows : List (Option Nd)) (free : List Nat) (cv fv : Value) (w : World) (c1 : w.cell? ⟨t, 1, none⟩ = some (.pointer (some ⟨p, 0, none⟩))) (h : Pl w p m rows free lim cv fv) (i : Nat) (hi : i < 10) (bs : Int) (hT : Tb w)
    (xb q n' kc xn xlo xhi a b : Nat) (hn64 : n' < 64) (hkc : n' + 1 ≤ kc) (hxb : xb < 18446744073709551616) (ha : w.cell? ⟨q, 0, none⟩ = some (.int .i64 a)) (hb : w.cell? ⟨q, n', none⟩ = some (.int .i64 b)) (y z : Nd) (hy : rows[a]? = some (some y)) (hz : rows[b]? = some (some z)) :
    Calls Tryd.prog 63 #[.pointer (some ⟨t, 0, none⟩), .agg #[.int .u64 xb, .slice (some ⟨q, 0, none⟩) (n' + 1) kc, .int .i64 xn, .int .u64 xlo, .int .u64 xhi], .int .i64 i, .int .u64 bs] w fun e w' => e = .returned (.agg #[.int .u64 xb, .slice (some ⟨q, 0, none⟩) (n' + 1) kc, .int .i64 xn, .int .u64 y.lo, .int .u64 z.hi]) ∧ Nw w w' := by
  have HL := Lib.hid (fun w' (h : Nw w w') => low_calls xb w' hxb (Tb.fr hT h (fun h => h)))
  have HH := Lib.hid (fun w' => high_calls xb w' hxb)
  have HS := Lib.hid (fun w' (hf : Nw w w') j x hx => tsee_calls t m p lim 0 [] (fun _ _ => 0) rows free cv fv w' (hf.cell c1 (fun h => h)) (h.nw hf) j x hx)
  have HY := Lib.hid hy
  have HZ := Lib.hid hz
  have h10 : ((i : Int) == 10) = false := by simp; omega
  have hq : q < w.heap.size := World.block_lt_of_cell? w _ ha
  have ht : t < w.heap.size := World.block_lt_of_cell? w _ c1
  have HA := Lib.hid ha
  have HB := Lib.hid hb
  clear h hT hy hz ha hb c1
  go_enter Tryd.func63, Tryd.ntmps63
  go_wp2
  refine wp_still 6 (by kernel_rfl) (by kernel_rfl) ?_
  simp only [List.take_succ_cons, List.take_zero, List.drop_succ_cons, List.drop_zero]
  repeat still_step
  still_call (Calls.mono (HL.out _ (((Fr.refl _ _).alloc _).alloc _).drew) (fun _ _ h => ⟨h.1, h.2.symm⟩))
  repeat still_step
  still_call (Calls.mono (HH.out _) (fun _ _ h => ⟨h.1, h.2.symm⟩))
  repeat still_step
  refine wpStill_nil ?_
  have ha' : (((w.alloc (.cells #[.int .u64 xb, .slice (some ⟨q, 0, none⟩) (n' + 1) kc, .int .i64 xn, .int .u64 xlo, .int .u64 xhi] 73)).alloc (.cells #[.int .u64 0, .slice none 0 0, .int .i64 0, .int .u64 0, .int .u64 0] 73)).drew).cell? ⟨q, 0, none⟩ = some (.int .i64 a) := ((((Fr.refl (fun _ => False) w).alloc _).alloc _).drew).cell HA.out (fun h => h)
  have fl := fun W => fldlo y.b (.slice y.ka y.kn y.kc) y.n y.lo y.hi W
  have fh := fun W => fldhi z.b (.slice z.ka z.kn z.kc) z.n z.lo z.hi W
  go_wp2_with (first
    | (go_at_call 48; (with_reducible refine Calls.mono (HS.out _ ((((Fr.refl _ _).alloc _).alloc _).drew) a y HY.out) ?_); rintro e w1 ⟨rfl, hf⟩; have hb0 := hf.blk (blk_drew (blk_alloc (blk_new w _) _)) (fun h => h); have hb1 := hf.blk (blk_drew (blk_new2 w _ _)) (fun h => h); clear ha'; have HF1 := Lib.hid ((((Fr.refl (fun _ => False) w).alloc _).alloc _).drew.trans hf); obtain ⟨r0, r1, r2, r3, r4⟩ := nd_cells hb0; have g0 := blk_frozen hb0 0; have g1 := blk_frozen hb0 1; have g2 := blk_frozen hb0 2; have g3 := blk_frozen hb0 3; have g4 := blk_frozen hb0 4; have HB0 := Lib.hid hb0; have HB1 := Lib.hid hb1; have hsz := hf.size; have hbn : w1.cell? ⟨q, n', none⟩ = some (.int .i64 b) := HF1.out.cell HB.out (fun h => h); clear hf hb0 hb1)
    | (go_at_call 48; (with_reducible refine Calls.mono (HS.out _ (HF1.out.setN (Nat.le_refl _) _ _) b z HZ.out) ?_); rintro e w2 ⟨rfl, hf⟩; have hb0 := hf.blk (blk_set HB0.out 3 (.int .u64 y.lo)) (fun h => h); have hb1 := hf.blk (((Fr.refl (One w.heap.size) w1).set (One.self _) 3 (.int .u64 y.lo)).blk HB1.out (by simp only [One]; omega)) (fun h => h); have HF2 := Lib.hid ((HF1.out.setN (Nat.le_refl _) 3 (.int .u64 y.lo)).trans hf); clear r0 r1 r2 r3 r4 g0 g1 g2 g3 g4; obtain ⟨r0, r1, r2, r3, r4⟩ := nd_cells hb0; have g0 := blk_frozen hb0 0; have g1 := blk_frozen hb0 1; have g2 := blk_frozen hb0 2; have g3 := blk_frozen hb0 3; have g4 := blk_frozen hb0 4; have HC0 := Lib.hid hb0; obtain ⟨s0, s1, s2, s3, s4⟩ := nd_cells hb1; have k0 := blk_frozen hb1 0; have k1 := blk_frozen hb1 1; have k2 := blk_frozen hb1 2; have k3 := blk_frozen hb1 3; have k4 := blk_frozen hb1 4; have HC1 := Lib.hid hb1; have hsz2 := hf.size; clear hf hb0 hb1))
  have hb1 := ((Fr.refl (One w.heap.size) w2).set (One.self _) 4 (.int .u64 z.hi)).blk HC1.out (by simp only [One]; omega)
  have hB : ((((((w2.setCell ⟨w.heap.size, 4, none⟩ (.int .u64 z.hi)).setCell ⟨(w.heap.size + 1), 0, none⟩ (.int .u64 xb)).setCell ⟨(w.heap.size + 1), 1, none⟩ (.slice (some ⟨q, 0, none⟩) (n' + 1) kc)).setCell ⟨(w.heap.size + 1), 2, none⟩ (.int .i64 xn)).setCell ⟨(w.heap.size + 1), 3, none⟩ (.int .u64 y.lo)).setCell ⟨(w.heap.size + 1), 4, none⟩ (.int .u64 z.hi)).heap[w.heap.size + 1]? = some (.cells #[.int .u64 xb, .slice (some ⟨q, 0, none⟩) (n' + 1) kc, .int .i64 xn, .int .u64 y.lo, .int .u64 z.hi] 73) := blk_put5 hb1 (⟨xb, some ⟨q, 0, none⟩, n' + 1, kc, xn, y.lo, z.hi⟩ : Nd)
  have HF9 : Hid (Nw w ((((((w2.setCell ⟨w.heap.size, 4, none⟩ (.int .u64 z.hi)).setCell ⟨(w.heap.size + 1), 0, none⟩ (.int .u64 xb)).setCell ⟨(w.heap.size + 1), 1, none⟩ (.slice (some ⟨q, 0, none⟩) (n' + 1) kc)).setCell ⟨(w.heap.size + 1), 2, none⟩ (.int .i64 xn)).setCell ⟨(w.heap.size + 1), 3, none⟩ (.int .u64 y.lo)).setCell ⟨(w.heap.size + 1), 4, none⟩ (.int .u64 z.hi))) := Lib.hid ((HF2.out.setN (Nat.le_refl _) 4 (.int .u64 z.hi)).trans_new (fr_put5 (w2.setCell ⟨w.heap.size, 4, none⟩ (.int .u64 z.hi)) (w.heap.size + 1) (⟨xb, some ⟨q, 0, none⟩, n' + 1, kc, xn, y.lo, z.hi⟩ : Nd)) (Nat.le_succ _))
  generalize ((((((w2.setCell ⟨w.heap.size, 4, none⟩ (.int .u64 z.hi)).setCell ⟨(w.heap.size + 1), 0, none⟩ (.int .u64 xb)).setCell ⟨(w.heap.size + 1), 1, none⟩ (.slice (some ⟨q, 0, none⟩) (n' + 1) kc)).setCell ⟨(w.heap.size + 1), 2, none⟩ (.int .i64 xn)).setCell ⟨(w.heap.size + 1), 3, none⟩ (.int .u64 y.lo)).setCell ⟨(w.heap.size + 1), 4, none⟩ (.int .u64 z.hi)) = W9 at hB HF9 ⊢
  clear s0 s1 s2 s3 s4
  obtain ⟨s0, s1, s2, s3, s4⟩ := nd_cells hB
  refine bodyPost_ret (by simp [results, Tryd.results63, go_sem, s0, s1, s2, s3, s4]; try rfl) rfl ?_
  exact ⟨rfl, HF9.out⟩
end Go.Proofs.YtnhdcefoigmjpaaDoor

/-
  The contract of a trie's Delete.
-/

namespace Go.Proofs.YtnhdcefoigmjpaaDoor
open Go.RowKit Go.Proofs.YtnhdcefoigmjpaaDoorW.PrintWords Go.Proofs.YtnhdcefoigmjpaaDoorW.PrintMore
attribute [local go_sem] max2_int min2_int max_two min_two
set_option linter.unusedVariables false
set_option linter.unusedSimpArgs false

theorem dep_there {l : List Nat} {k : Nat} (h : k ∈ l) : Dep l k 11 := ⟨Nat.le_refl _, fun i hi => ⟨fun _ => hi, fun _ => ⟨k, h, rfl⟩⟩⟩
/-- What bounds is asked of a node whose bits and children are those of the keys without k. -/
theorem tbounds_calls (t m p lim : Nat) (L : Nat → List Nat) (l : List Nat) (ad : Ad) (rows : List (Option Nd)) (free : List Nat) (cv fv : Value) (w : World) (c1 : w.cell? ⟨t, 1, none⟩ = some (.pointer (some ⟨p, 0, none⟩))) (h : Pl w p m rows free lim cv fv) (hni : NI w fv ad L rows) (i k : Nat) (hi : i ≤ 10) (hL : i < 10 → L (i + 1) = l) (hk : k < 18446744073709551616) (hup : Up l) (hne : cls l i (pre i k) ≠ []) (bs : Int) (hbs : bs = bits .andNot .u64 (k : Int) 63) (hT : Tb w)
    (x : Nd) (hb : x.b = bitsC l i (pre i k)) (hkids : Kd.R (Kd.int .i64) 3 w 0 (fun _ => True) (.slice x.ka x.kn x.kc) (if i < 10 then kidC ad l i (pre i k) else [])) :
    Calls Tryd.prog 63 #[.pointer (some ⟨t, 0, none⟩), (Value.agg #[Value.int IntKind.u64 (Nd.b x), Value.slice (Nd.ka x) (Nd.kn x) (Nd.kc x), Value.int IntKind.i64 (Nd.n x), Value.int IntKind.u64 (Nd.lo x), Value.int IntKind.u64 (Nd.hi x)]), .int .i64 i, .int .u64 bs] w fun e w' => e = .returned (Value.agg #[Value.int IntKind.u64 (Nd.b (⟨x.b, x.ka, x.kn, x.kc, x.n, (cls l i (pre i k)).headD 0, (cls l i (pre i k)).getLastD 0⟩ : Nd)), Value.slice (Nd.ka (⟨x.b, x.ka, x.kn, x.kc, x.n, (cls l i (pre i k)).headD 0, (cls l i (pre i k)).getLastD 0⟩ : Nd)) (Nd.kn (⟨x.b, x.ka, x.kn, x.kc, x.n, (cls l i (pre i k)).headD 0, (cls l i (pre i k)).getLastD 0⟩ : Nd)) (Nd.kc (⟨x.b, x.ka, x.kn, x.kc, x.n, (cls l i (pre i k)).headD 0, (cls l i (pre i k)).getLastD 0⟩ : Nd)), Value.int IntKind.i64 (Nd.n (⟨x.b, x.ka, x.kn, x.kc, x.n, (cls l i (pre i k)).headD 0, (cls l i (pre i k)).getLastD 0⟩ : Nd)), Value.int IntKind.u64 (Nd.lo (⟨x.b, x.ka, x.kn, x.kc, x.n, (cls l i (pre i k)).headD 0, (cls l i (pre i k)).getLastD 0⟩ : Nd)), Value.int IntKind.u64 (Nd.hi (⟨x.b, x.ka, x.kn, x.kc, x.n, (cls l i (pre i k)).headD 0, (cls l i (pre i k)).getLastD 0⟩ : Nd))]) ∧ Nw w w' := by
  have hxb : x.b < 18446744073709551616 := by rw [hb]; exact bits_lt _ _ _
  rcases Nat.lt_or_ge i 10 with h10 | h10
  · rw [if_pos h10] at hkids
    obtain ⟨y, hy, y1, y2, _⟩ := head_kid ad hup i (pre i k) hi hne
    obtain ⟨z, hz, z1, z2, _⟩ := last_kid ad hup i (pre i k) hi hne
    obtain ⟨yn, yr, yo⟩ := hni.ok (i + 1) (by omega) y (by rw [hL h10]; exact ((mem_cls l i _ y).1 hy).1)
    obtain ⟨zn, zr, zo⟩ := hni.ok (i + 1) (by omega) z (by rw [hL h10]; exact ((mem_cls l i _ z).1 hz).1)
    have hl0 : 0 < (kidC ad l i (pre i k)).length := (List.getElem?_eq_some_iff.1 y1).1
    have h64 : (kidC ad l i (pre i k)).length ≤ 64 := by rw [kid_len]; exact cntN_le _
    have ho := Kd.own_of_R hkids
    obtain ⟨q, c, ev, hc⟩ : ∃ q c, Value.slice x.ka x.kn x.kc = .slice (some ⟨q, 0, none⟩) (kidC ad l i (pre i k)).length c ∧ (kidC ad l i (pre i k)).length ≤ c := by
      rcases ho.2 with ⟨_, e⟩ | ⟨g, cap, cur, e, _, _, h3, _⟩
      · omega
      · exact ⟨g, cap, e, h3⟩
    obtain ⟨n', hn'⟩ : ∃ n', (kidC ad l i (pre i k)).length = n' + 1 := ⟨(kidC ad l i (pre i k)).length - 1, by omega⟩
    have hcell : ∀ j v, (kidC ad l i (pre i k))[j]? = some v → w.cell? ⟨q, j, none⟩ = some (.int .i64 v) := by
      intro j v hj
      rw [ev] at ho
      have hlt := (List.getElem?_eq_some_iff.1 hj).1
      rw [ho.cellAt j (by omega)]
      simp only [encs, List.getElem?_map, hj, Option.map_some]
    have ha := hcell _ _ y1
    have hz0 := hcell _ _ z1
    rw [hn', Nat.add_sub_cancel] at hz0
    rw [hn'] at ev hc
    have hz1 := tbounds_mid t m p lim rows free cv fv w c1 h i h10 bs hT x.b q n' c x.n x.lo x.hi _ _ (by omega) hc hxb ha hz0 yn zn yr zr
    simp only [Value.slice.injEq] at ev
    obtain ⟨e1, e2, e3⟩ := ev
    have hlo : yn.lo = (cls l i (pre i k)).headD 0 := by rw [yo.lo, hL h10, y2]
    have hhi : zn.hi = (cls l i (pre i k)).getLastD 0 := by rw [zo.hi, hL h10, z2]
    rw [hlo, hhi] at hz1
    simp only [e1, e2, e3]
    exact hz1
  · obtain rfl : i = 10 := by omega
    obtain ⟨a, b, ha, hb2, e1, e2, e3, e4⟩ := ends_ten hup (pre 10 k) hne
    rw [← hb] at e1 e2
    rw [e3, e4]
    exact tbounds_ten t x k a b bs w hbs hk hT hxb ha hb2 e1 e2

set_option maxRecDepth 100000 in
set_option maxHeartbeats 6000000 in
theorem tdel_there (t m p lim root : Nat) (l : List Nat) (k : Nat) (ad : Ad) (rows : List (Option Nd)) (free : List Nat) (cv fv : Value) (tk : Int) (w : World) (h : TI w t m p (insS l k) lim ad rows free cv fv root) (hm : MT w m tk) (hup : Up l) (hkl : k ∉ l) (hk : k < 18446744073709551616) (hT : Tb w) (hTG : ¬ PS p cv fv 0) :
    Calls Tryd.prog 25 #[.pointer (some ⟨t, 0, none⟩), .int .u64 k] w fun e w' => e = .returned (.int .i64 0) ∧ ∃ rows' free' fv', TI w' t m p l lim ad rows' free' cv fv' root ∧ Ext w.heap.size fv fv' ∧ (∃ tk' : Int, 0 ≤ tk' ∧ tk' ≤ 22 ∧ MT w' m tk') ∧ Fr (TS t m p cv fv) w w' := by
  obtain ⟨d, hd0⟩ := depth_exists l k
  have hd : Dep l k d := hd0
  have hus := used_ins hup hkl hd.1 hd.2
  have hd11 := hd.1
  have hkm : k ∈ insS l k := (mem_insS l k k).2 (.inl rfl)
  have HH := Lib.hid (thas_calls t m p lim root (insS l k) ad rows free cv fv tk w h hm k hk)
  have HKT : Hid (decide (k ∈ insS l k) = true) := Lib.hid (decide_eq_true hkm)
  have HD11 := Lib.hid (dep_there hkm)
  have HUP := Lib.hid hup
  have HLV := Lib.hid h.live
  have HKL := Lib.hid hkl
  have HD := Lib.hid hd
  have HUS := Lib.hid hus
  have HTB := Lib.hid hT
  have hlen : (l.length : Int) + 1 ≤ 1000000 := by have := h.len; rw [len_insS] at this; omega
  have ht := h.lt
  have HMM := Lib.hid hm
  have HTG : Hid (¬ PS p cv fv 0) := Lib.hid hTG
  clear h hm hkl hd hd0 hus hkm hup hT hTG
  go_enter Tryd.func25, Tryd.ntmps25
  go_wp2_with (first
    | (go_at_call 26; refine HH.out.mono ?_; rintro e w1 ⟨rfl, ht1, ⟨tk1, q1, q2, hm1⟩, hf1⟩; rw [HKT.out]; have HT1 := Lib.hid ht1; have HM1 := Lib.hid hm1; have HF1 := Lib.hid hf1; clear ht1 hm1 hf1)
    | (go_at_call 52; refine (tpath_calls t m p lim root (insS l k) ad rows free cv fv tk1 _ HT1.out HM1.out q1 (by omega) k 11 hk HD11.out).mono ?_; rintro e w2 ⟨v', rfl, hR, hm2, hf2⟩; obtain ⟨gA, cp, rfl, _, _⟩ := World.ownsRow.form (Kd.own_of_R hR) (by rw [way_len]; omega); rw [way_len] at hR ⊢; have HT2 := Lib.hid (HT1.out.meter HM1.out hf2); have HM2 := Lib.hid hm2; have HF2 := Lib.hid (HF1.out.trans hf2); have HR2 := Lib.hid (R_base0 hR); have HGA : Hid (fv.ownBlock ≠ some gA) := Lib.hid (fun h => by have h1 := R_ge hR gA rfl; obtain ⟨_, hc⟩ := own_blk (Kd.own_of_R HT1.out.pl.fre) gA h; exact absurd (blk_lt hc) (by omega)); clear hR hm2 hf2))
  go_loopw [6, 7, 8, 9, 10] (fun gv lv _ _ _ wr => ∃ (j : Nat) (rows' : List (Option Nd)) (free' : List Nat) (fv' : Value), j ≤ 11 ∧ lv = .int .i64 ((j : Int) - 1) ∧ gv = .bool (decide (d ≤ j)) ∧ Hid (DI w2 wr m p l k d j lim ad rows' free' cv fv fv')) (fun _ lv _ _ _ _ => (intOf lv + 1).toNat)
  case atStart => exact ⟨11, rows, free, fv, by omega, rfl, by rw [decide_eq_true hd11], Lib.hid ⟨HT2.out.ni.congr (fun i hi => by rw [if_neg (by omega)]), HT2.out.pl, by rw [HLV.out]; omega, Ext.refl _ _, Fr.refl _ _⟩⟩
  case round =>
    obtain ⟨j, rows', free', fv', hj, rfl, rfl, HDI⟩ := hrel
    cases j with
    | zero =>
      have hbt := HDI.out.fr.blk HT2.out.blk (ps_typ HT2.out.pl HT2.out.blk (by decide) (by decide) (by decide))
      have c3 : wr.cell? ⟨t, 3, none⟩ = some (.int .i64 ((l.length : Int) + 1)) := by have e := blk_cell hbt 3; rw [len_insS] at e; exact e
      have f3 := blk_frozen hbt 3
      have HMt : Hid (m ≠ t) := Lib.hid (by obtain ⟨_, _, _, _, hx⟩ := HM2.out; exact typ_ne hx HT2.out.blk (by decide))
      clear hbt
      go_wp2
      go_ret
      have hz := td_done HT2.out HDI.out HUP.out HKL.out HUS.out
      refine ⟨rfl, rows', free', fv', hz.1, HDI.out.xf.le (by have := HF2.out.size; omega), ⟨_, by omega, by omega, ((di_meter HT2.out.pl HM2.out HDI.out).fr ((Fr.refl (One t) _).set (One.self t) _ _) HMt.out)⟩, (HF2.out.mono (fun q _ h => .inr (.inl h))).trans hz.2⟩
    | succ i =>
      have hi10 : i ≤ 10 := by omega
      rw [show (((i + 1 : Nat) : Int) - 1) = (i : Int) by omega]
      have HAt := Lib.hid (fun w' => tat_calls k i w' hk hi10)
      obtain ⟨x0, hx0, hok⟩ := HDI.out.ni.ok i hi10 k (by rw [if_neg (by omega)]; exact (mem_insS l k k).2 (.inl rfl))
      simp only [show ¬ (i + 1 ≤ i) by omega, if_false] at hok
      have HX0 := Lib.hid hx0
      have HOK0 := Lib.hid hok
      clear hx0 hok
      have c1 : wr.cell? ⟨t, 1, none⟩ = some (.pointer (some ⟨p, 0, none⟩)) := blk_cell (HDI.out.fr.blk HT2.out.blk (ps_typ HT2.out.pl HT2.out.blk (by decide) (by decide) (by decide))) 1
      have htr : t < wr.heap.size := Nat.lt_of_lt_of_le HT2.out.lt HDI.out.fr.size
      have HCA : Hid (wr.cell? ⟨gA, i, none⟩ = some (.int .i64 (ad i (pre i k) : Nat))) := Lib.hid (by
        have ho := Kd.own_of_R HR2.out
        rw [way_len] at ho
        refine HDI.out.fr.cell ?_ ?_
        · rw [ho.cellAt _ (by omega)]
          simp only [encs, List.getElem?_map, way_get ad k 11 i (by omega), Option.map_some]
        · obtain ⟨cur, hg⟩ := own_blk ho gA rfl
          exact ps_kid HT2.out.pl gA ⟨HGA.out, cur, hg⟩)
      have hcA := HCA.out
      have HTW : Hid (Tb wr) := Lib.hid ((HTB.out.meter HMM.out HF2.out).fr HDI.out.fr HTG.out)
      have hgA : gA < wr.heap.size := World.block_lt_of_cell? wr _ hcA
      obtain ⟨gb, hgb⟩ : ∃ gb, gb = decide (d ≤ i + 1) := ⟨_, rfl⟩
      rw [← hgb]
      have HGB := Lib.hid hgb
      clear hgb
      go_upto_if 35 with (first
        | (go_at_call 48; refine (tsee_calls t m p lim root [] ad rows' free' cv fv' _ c1 HDI.out.pl _ x0 HX0.out).mono ?_; rintro e w4 ⟨rfl, hf4⟩; have HF4 := Lib.hid hf4; have hs4 := hf4.size; clear hf4)
        | (go_at_call 42; refine (HAt.out _).mono ?_; rintro e w' ⟨rfl, rfl⟩))
      have HB5 : Hid ((w4.alloc (.cells #[.int .u64 x0.b, .slice x0.ka x0.kn x0.kc, .int .i64 x0.n, .int .u64 x0.lo, .int .u64 x0.hi] 73)).heap[w4.heap.size]? = some (.cells #[.int .u64 x0.b, .slice x0.ka x0.kn x0.kc, .int .i64 x0.n, .int .u64 x0.lo, .int .u64 x0.hi] 73)) := Lib.hid (blk_new w4 _)
      have HF5 : Hid (Nw wr (w4.alloc (.cells #[.int .u64 x0.b, .slice x0.ka x0.kn x0.kc, .int .i64 x0.n, .int .u64 x0.lo, .int .u64 x0.hi] 73))) := Lib.hid (HF4.out.alloc _)
      have hb8l : w4.heap.size < (w4.alloc (.cells #[.int .u64 x0.b, .slice x0.ka x0.kn x0.kc, .int .i64 x0.n, .int .u64 x0.lo, .int .u64 x0.hi] 73)).heap.size := by simp
      obtain ⟨w5, hw5⟩ : ∃ w5, w5 = w4.alloc (.cells #[.int .u64 x0.b, .slice x0.ka x0.kn x0.kc, .int .i64 x0.n, .int .u64 x0.lo, .int .u64 x0.hi] 73) := ⟨_, rfl⟩
      obtain ⟨b8, hb8⟩ : ∃ b8, b8 = w4.heap.size := ⟨_, rfl⟩
      rw [← hw5] at HB5 HF5 hb8l ⊢
      rw [← hb8] at HB5 hb8l hs4 ⊢
      have C1 := Lib.hid c1
      clear hw5 hb8 HF4 c1 hcA
      obtain ⟨r0, r1, r2, r3, r4⟩ := nd_cells HB5.out
      have g0 := blk_frozen HB5.out 0; have g1 := blk_frozen HB5.out 1; have g2 := blk_frozen HB5.out 2; have g3 := blk_frozen HB5.out 3; have g4 := blk_frozen HB5.out 4
      go_cut [10] from 22 to 86 (fun s10 wx => ∃ x1 : Nd, Hid (wx.heap[b8]? = some (.cells #[.int .u64 x1.b, .slice x1.ka x1.kn x1.kc, .int .i64 x1.n, .int .u64 x1.lo, .int .u64 x1.hi] 73)) ∧ Hid (Mid wx fv' ad (insS l k) l i (pre i k) x1) ∧ Hid (Fr (fun _ => False) wr wx))
      case first =>
        cases gb with
        | false =>
          have hid : i + 1 < d := by have := of_decide_eq_false HGB.out.symm; omega
          have hz := (HD.out.2 (i + 1) (by omega)).2 hid
          go_wp2_with fail
          go_meet
          exact ⟨x0, HB5, Lib.hid ((HOK0.out.kept HF5.out (fun _ _ h => h) (Ext.refl _ _)).del_old HUP.out HKL.out (by omega) hz), HF5⟩
        | true =>
          have hid : d ≤ i + 1 := of_decide_eq_true HGB.out.symm
          have HZ : Hid (¬ ∃ z, z ∈ l ∧ pre (i + 1) z = pre (i + 1) k) := Lib.hid (fun hz => by
            by_cases e10 : i = 10
            · obtain ⟨z, h1, h2⟩ := hz
              rw [e10, pre_key, pre_key] at h2
              rw [h2] at h1
              exact absurd h1 HKL.out
            · have := (HD.out.2 (i + 1) (by omega)).1 hz
              omega)
          have hdg := dig_lt i k
          have HCL := Lib.hid (fun w' => clear_calls x0.b (dig i k : Nat) w' HOK0.out.bl)
          have HRK := Lib.hid (fun w' => brank_calls x0.b (dig i k : Nat) w' HOK0.out.bl)
          by_cases h10 : i = 10
          · subst h10
            go_wp2_with (go_at_call 61; refine (HCL.out _).mono ?_; rintro e w' ⟨rfl, rfl⟩)
            go_meet
            have hfw : Nw wr (w5.setCell ⟨b8, 0, none⟩ (.int .u64 (clrN x0.b (dig 10 k : Nat) : Nat))) := HF5.out.setN hs4 _ _
            exact ⟨⟨clrN x0.b (dig 10 k : Nat), x0.ka, x0.kn, x0.kc, x0.n, x0.lo, x0.hi⟩, Lib.hid (blk_set HB5.out 0 _), Lib.hid ((HOK0.out.kept hfw (fun _ _ h => h) (Ext.refl _ _)).del_ten HUP.out HKL.out), Lib.hid hfw⟩
          · have hi9 : i < 10 := by omega
            have hi9' : (i : Int) < 10 := by omega
            have hkk := (HOK0.out.kept HF5.out (fun _ _ h => h) (Ext.refl _ _)).kids
            rw [if_pos hi9] at hkk
            have hkl2 : rankL (listW x0.b) (dig i k : Nat) < (kidC ad (insS l k) i (pre i k)).length ∧ (kidC ad (insS l k) i (pre i k)).length ≤ 64 := by
              rw [HOK0.out.b]
              exact ⟨(kid_at ad (insS l k) i k hi10 ⟨k, (mem_insS l k k).2 (.inl rfl), rfl⟩).1, by rw [kid_len]; exact cntN_le _⟩
            obtain ⟨kd, hkd⟩ : ∃ kd, kd = kidC ad (insS l k) i (pre i k) := ⟨_, rfl⟩
            obtain ⟨r, hr⟩ : ∃ r, r = rankL (listW x0.b) (dig i k : Nat) := ⟨_, rfl⟩
            rw [← hkd] at hkk hkl2
            rw [← hr] at hkl2 HRK
            have HKK := Lib.hid hkk
            have HKD := Lib.hid hkd
            have HR := Lib.hid hr
            have HRL := Lib.hid hkl2
            have hr65 : (r : Int) + 1 ≤ 65 := by omega
            clear hkk hkd hr hkl2
            go_wp2_with (first
              | (go_at_call 50; refine (HRK.out _).mono ?_; rintro e w' ⟨rfl, rfl⟩)
              | (go_at_call 55; refine (clone_calls w5 HKK.out (by have := HRL.out; omega)).mono ?_; rintro e w6 ⟨v', rfl, hR6, hf6⟩; obtain ⟨A2, c2, rfl⟩ := R_form hR6; have HB6 := Lib.hid (hf6.blk HB5.out (fun h => h)); have HN6 := Lib.hid hf6; have HR6 := Lib.hid hR6; clear hR6 hf6; clear r0 r1 r2 r3 r4 g0 g1 g2 g3 g4; obtain ⟨r0, r1, r2, r3, r4⟩ := nd_cells HB6.out; have g0 := blk_frozen HB6.out 0; have g1 := blk_frozen HB6.out 1; have g2 := blk_frozen HB6.out 2; have g3 := blk_frozen HB6.out 3; have g4 := blk_frozen HB6.out 4)
              | (go_at_call 60; rw [show ((r : Int) + 1) = ((r + 1 : Nat) : Int) from rfl]; refine (delete_calls (base := w5.heap.size) _ HR6.out (by have := HRL.out; omega) r HRL.out.1).mono ?_; rintro e w7 ⟨v7, rfl, hR7, ho7, hf7⟩; obtain ⟨A7, c7, rfl⟩ := R_form hR7; obtain ⟨n7, hn7⟩ : ∃ n7, n7 = (kd.take r ++ kd.drop (r + 1)).length := ⟨_, rfl⟩; rw [← hn7] at hR7 ⊢; clear hn7; have HB7 := Lib.hid (hf7.blk HB6.out (fun e => absurd (R_ge HR6.out _ e) (by omega))); have HN7 := Lib.hid (HN6.out.trans_of hf7 (fun q hq e => absurd (R_ge HR6.out _ e) (by omega))); have HR7 := Lib.hid hR7; clear hR7 hf7 ho7; clear r0 r1 r2 r3 r4 g0 g1 g2 g3 g4; obtain ⟨r0, r1, r2, r3, r4⟩ := nd_cells HB7.out; have g0 := blk_frozen HB7.out 0; have g1 := blk_frozen HB7.out 1; have g2 := blk_frozen HB7.out 2; have g3 := blk_frozen HB7.out 3; have g4 := blk_frozen HB7.out 4)
              | (go_at_call 61; refine (HCL.out _).mono ?_; rintro e w' ⟨rfl, rfl⟩))
            go_meet
            have hfw : Nw wr ((w7.setCell ⟨b8, 1, none⟩ (.slice A7 n7 c7)).setCell ⟨b8, 0, none⟩ (.int .u64 (clrN x0.b (dig i k : Nat) : Nat))) := ((HF5.out.trans HN7.out).setN hs4 _ _).setN hs4 _ _
            have hfo : Fr (One b8) w7 ((w7.setCell ⟨b8, 1, none⟩ (.slice A7 n7 c7)).setCell ⟨b8, 0, none⟩ (.int .u64 (clrN x0.b (dig i k : Nat) : Nat))) := ((Fr.refl (One b8) w7).set (One.self _) 1 _).set (One.self _) 0 _
            refine ⟨⟨clrN x0.b (dig i k : Nat), A7, n7, c7, x0.n, x0.lo, x0.hi⟩, Lib.hid (blk_set (blk_set HB7.out 1 _) 0 _), Lib.hid ((HOK0.out.kept hfw (fun _ _ h => h) (Ext.refl _ _)).del_gone HUP.out HKL.out hi9 HZ.out ?_ ?_), Lib.hid hfw⟩
            · rw [← HKD.out, ← HR.out]
              exact R_fr (R_base0 HR7.out) hfo (fun q hq => by have h1 := R_ge HR7.out q hq; simp only [One]; omega)
            · intro q hq e
              have h1 := R_ge HR7.out q hq
              obtain ⟨_, hc⟩ := own_blk (Kd.own_of_R HDI.out.pl.fre) q e
              have := blk_lt hc
              have := HF5.out.size
              omega
      case rest =>
        obtain ⟨x1, HB1, HMID, HF1x⟩ := hcut
        clear r0 r1 r2 r3 r4 g0 g1 g2 g3 g4 HB5 HF5
        obtain ⟨r0, r1, r2, r3, r4⟩ := nd_cells HB1.out
        have g0 := blk_frozen HB1.out 0; have g1 := blk_frozen HB1.out 1; have g2 := blk_frozen HB1.out 2; have g3 := blk_frozen HB1.out 3; have g4 := blk_frozen HB1.out 4
        obtain ⟨n1, hn1⟩ : ∃ n1, x1.n = n1 + 1 := ⟨_, HMID.out.cnt HUP.out HKL.out⟩
        have hn1b : (n1 : Int) + 1 ≤ 1000000 := by have h1 := HMID.out.cnt HUP.out HKL.out; have h2 : (cls l i (pre i k)).length ≤ l.length := List.length_filter_le _ _; omega
        have r2' : wc.cell? ⟨b8, 2, none⟩ = some (.int .i64 ((n1 : Int) + 1)) := by rw [r2, hn1]; rfl
        have HN1 := Lib.hid hn1
        have HGO := Lib.hid (HMID.out.gone HD.out hi10)
        have HB2 := Lib.hid (blk_set HB1.out 2 (.int .i64 n1))
        have HF2x := Lib.hid (HF1x.out.setN hs4 2 (.int .i64 n1))
        have HK2 : Hid (Kd.R (Kd.int .i64) 3 (wc.setCell ⟨b8, 2, none⟩ (.int .i64 n1)) 0 (fun _ => True) (.slice x1.ka x1.kn x1.kc) (if i < 10 then kidC ad l i (pre i k) else [])) := Lib.hid (R_fr HMID.out.kids ((Fr.refl (One b8) wc).set (One.self _) 2 _) (fun q hq => by obtain ⟨_, hc⟩ := own_blk (Kd.own_of_R HMID.out.kids) q hq; exact typ_ne hc HB1.out (by decide)))
        have hi11 : i < 11 := by omega
        have hi11' : (i : Int) < 11 := by omega
        have HSH : Hid (NdOk wc fv' ad l i (pre i k) ⟨x1.b, x1.ka, x1.kn, x1.kc, n1, (cls l i (pre i k)).headD 0, (cls l i (pre i k)).getLastD 0⟩) := Lib.hid (HMID.out.shrunk HUP.out HKL.out hn1 rfl rfl)
        have HBB : Hid (x1.b = bitsC l i (pre i k)) := Lib.hid HMID.out.b
        have HOB : Hid (∀ q, (Value.slice x1.ka x1.kn x1.kc).ownBlock = some q → q ≠ b8) := Lib.hid (fun q hq => by obtain ⟨_, hc⟩ := own_blk (Kd.own_of_R HMID.out.kids) q hq; exact typ_ne hc HB1.out (by decide))
        have HDI6 := Lib.hid (HDI.out.nw HF2x.out)
        clear r2 hn1 HMID
        by_cases hid : d ≤ i
        · have hb0 : ((x1.b : Int) == 0) = true := by have := HGO.out.2 hid; simp; omega
          go_upto_if 62 with fail
          obtain ⟨w6, hw6⟩ : ∃ w6, w6 = wc.setCell ⟨b8, 2, none⟩ (.int .i64 n1) := ⟨_, rfl⟩
          rw [← hw6] at HB2 HF2x HK2 HDI6 ⊢
          clear hw6 HB1 HF1x r0 r1 r2' r3 r4 g0 g1 g2 g3 g4 hb0
          have c1 : w6.cell? ⟨t, 1, none⟩ = some (.pointer (some ⟨p, 0, none⟩)) := HF2x.out.cell C1.out (fun h => h)
          have hcA : w6.cell? ⟨gA, i, none⟩ = some (.int .i64 (ad i (pre i k) : Nat)) := HF2x.out.cell HCA.out (fun h => h)
          go_wp2_with fail
          go_region_law ((go_simp; go_at_call 62; refine (pl_free p m rows' free' lim cv fv' _ (HDI6.out.pl.nw (Fr.refl _ _).drew) _ x0 HX0.out).mono ?_; rintro e w7 ⟨fv2, rfl, hpl, hxf, hf7⟩; have HP7 := Lib.hid hpl; have HXF := Lib.hid hxf; have HF7 := Lib.hid hf7; clear hpl hxf hf7))
          all_goals go_wp2
          all_goals go_roundw
          any_goals (show (_ : Nat) < _; simp only [intOf]; omega)
          all_goals exact ⟨i, _, _, fv2, by omega, rfl, by rw [decide_eq_true hid], Lib.hid (di_free HDI6.out HUP.out HKL.out hi10 HD.out hid HX0.out HP7.out HXF.out ((Fr.refl _ w6).drew.trans HF7.out))⟩
        · have hb0 : ((x1.b : Int) == 0) = false := by have := mt HGO.out.1 hid; simp; omega
          go_upto_if 62 with fail
          have HF61 : Hid (Fr (One b8) wc (wc.setCell ⟨b8, 2, none⟩ (.int .i64 n1))) := Lib.hid ((Fr.refl (One b8) wc).set (One.self _) 2 _)
          obtain ⟨w6, hw6⟩ : ∃ w6, w6 = wc.setCell ⟨b8, 2, none⟩ (.int .i64 n1) := ⟨_, rfl⟩
          rw [← hw6] at HB2 HF2x HK2 HDI6 HF61 ⊢
          clear hw6 HB1 HF1x r0 r1 r2' r3 r4 g0 g1 g2 g3 g4 hb0
          have hne : cls l i (pre i k) ≠ [] := by
            obtain ⟨z, hz, e⟩ := (HD.out.2 i (by omega)).2 (by omega)
            intro e2
            have := (mem_cls l i (pre i k) z).2 ⟨hz, e⟩
            rw [e2] at this; cases this
          have hnok6 := HSH.out.kept HF61.out (fun q hq => HOB.out q hq) (Ext.refl _ _)
          have hbd6 : Hid (∀ w', Nw w6 w' → Calls Tryd.prog 63 #[.pointer (some ⟨t, 0, none⟩), .agg #[.int .u64 x1.b, .slice x1.ka x1.kn x1.kc, .int .i64 n1, .int .u64 x1.lo, .int .u64 x1.hi], .int .i64 i, .int .u64 (bits .andNot .u64 (k : Int) 63)] w' fun e w'' => e = .returned (.agg #[.int .u64 x1.b, .slice x1.ka x1.kn x1.kc, .int .i64 n1, .int .u64 ((cls l i (pre i k)).headD 0 : Nat), .int .u64 ((cls l i (pre i k)).getLastD 0 : Nat)]) ∧ Nw w' w'') :=
            Lib.hid (fun w' hf => tbounds_calls t m p lim (fun i' => if i + 1 ≤ i' then l else insS l k) l ad rows' free' cv fv' w' (hf.cell (HF2x.out.cell C1.out (fun h => h)) (fun h => h)) (HDI6.out.pl.nw hf) (HDI6.out.ni.kept hf (fun _ _ h => h) (Ext.refl _ _)) i k hi10 (fun _ => if_pos (Nat.le_refl _)) hk HUP.out hne _ rfl (HTW.out.step (HF2x.out.trans hf)) ⟨x1.b, x1.ka, x1.kn, x1.kc, n1, x1.lo, x1.hi⟩ HBB.out (R_fr HK2.out hf (fun _ _ h => h)))
          obtain ⟨x3, hx3⟩ : ∃ x3 : Nd, x3 = ⟨x1.b, x1.ka, x1.kn, x1.kc, n1, (cls l i (pre i k)).headD 0, (cls l i (pre i k)).getLastD 0⟩ := ⟨_, rfl⟩
          have HBO : Hid (∀ w', Nw w6 w' → Calls Tryd.prog 63 #[.pointer (some ⟨t, 0, none⟩), .agg #[.int .u64 x1.b, .slice x1.ka x1.kn x1.kc, .int .i64 n1, .int .u64 x1.lo, .int .u64 x1.hi], .int .i64 i, .int .u64 (bits .andNot .u64 (k : Int) 63)] w' fun e w'' => e = .returned (Value.agg #[Value.int IntKind.u64 (Nd.b x3), Value.slice (Nd.ka x3) (Nd.kn x3) (Nd.kc x3), Value.int IntKind.i64 (Nd.n x3), Value.int IntKind.u64 (Nd.lo x3), Value.int IntKind.u64 (Nd.hi x3)]) ∧ Nw w' w'') := by rw [hx3]; exact hbd6
          rw [← hx3] at hnok6
          have HNOK := Lib.hid hnok6
          clear hx3 hbd6 hnok6 hne HSH HBB HK2
          obtain ⟨r0, r1, r2, r3, r4⟩ := nd_cells HB2.out
          have c1 : w6.cell? ⟨t, 1, none⟩ = some (.pointer (some ⟨p, 0, none⟩)) := HF2x.out.cell C1.out (fun h => h)
          have hcA : w6.cell? ⟨gA, i, none⟩ = some (.int .i64 (ad i (pre i k) : Nat)) := HF2x.out.cell HCA.out (fun h => h)
          go_wp2_with fail
          go_region_law (first
            | (go_simp; go_at_call 63; refine (HBO.out _ (Fr.refl _ w6).drew).mono ?_; rintro e w7 ⟨rfl, hf7⟩; have HF7 := Lib.hid ((Fr.refl (fun _ => False) w6).drew.trans hf7); have c1' : w7.cell? ⟨t, 1, none⟩ = some (.pointer (some ⟨p, 0, none⟩)) := HF7.out.cell c1 (fun h => h); have hcA' : w7.cell? ⟨gA, i, none⟩ = some (.int .i64 (ad i (pre i k) : Nat)) := HF7.out.cell hcA (fun h => h); clear hf7)
            | (go_simp; go_at_call 59; refine (pl_put p m rows' free' lim cv fv' _ (HDI6.out.pl.nw HF7.out) _ x0 x3 HX0.out).mono ?_; rintro e w8 ⟨rfl, hpl, hf8⟩; have HP8 := Lib.hid hpl; have HF8 := Lib.hid hf8; clear hpl hf8))
          all_goals go_wp2
          all_goals go_roundw
          any_goals (show (_ : Nat) < _; simp only [intOf]; omega)
          all_goals (
            have hlt := (List.getElem?_eq_some_iff.1 HX0.out).1
            have hlv := liveN_set rows' (ad i (pre i k)) (some x3) _ HX0.out
            exact ⟨i, _, free', fv', by omega, rfl, by rw [decide_eq_false hid], Lib.hid (di_put (HDI6.out.nw HF7.out) HUP.out HKL.out hi10 HD.out (by omega) (HNOK.out.kept HF7.out (fun _ _ h => h) (Ext.refl _ _)) HP8.out HF8.out (List.getElem?_set_self hlt) (fun b y hb h => by rw [List.getElem?_set_ne (fun e => hb e.symm)]; exact h) (by simpa using hlv))⟩)
end Go.Proofs.YtnhdcefoigmjpaaDoor

/-
  Delete, as the law sees it.
-/

namespace Go.Proofs.YtnhdcefoigmjpaaDoor
open Go.RowKit Go.Proofs.YtnhdcefoigmjpaaDoorW.PrintWords Go.Proofs.YtnhdcefoigmjpaaDoorW.PrintMore
attribute [local go_sem] max2_int min2_int max_two min_two
set_option linter.unusedVariables false
set_option linter.unusedSimpArgs false

set_option maxRecDepth 100000 in
set_option maxHeartbeats 1000000 in
theorem tdel_none (t m p lim root : Nat) (l : List Nat) (ad : Ad) (rows : List (Option Nd)) (free : List Nat) (cv fv : Value) (tk : Int) (w : World) (h : TI w t m p l lim ad rows free cv fv root) (hm : MT w m tk) (k : Nat) (hk : k < 18446744073709551616) (hkl : k ∉ l) :
    Calls Tryd.prog 25 #[.pointer (some ⟨t, 0, none⟩), .int .u64 k] w fun e w' => e = .returned (.int .i64 3) ∧ TI w' t m p l lim ad rows free cv fv root ∧ (∃ tk' : Int, 0 ≤ tk' ∧ tk' ≤ 11 ∧ MT w' m tk') ∧ Fr (One m) w w' := by
  have HH := Lib.hid (thas_calls t m p lim root l ad rows free cv fv tk w h hm k hk)
  have HKF : Hid (decide (k ∈ l) = false) := Lib.hid (decide_eq_false hkl)
  clear h hm hkl
  go_enter Tryd.func25, Tryd.ntmps25
  go_wp2_with (first
    | (go_at_call 26; refine HH.out.mono ?_; rintro e w1 ⟨rfl, ht1, hm1, hf1⟩; rw [HKF.out]))
  go_ret
  exact ⟨rfl, ht1, hm1, hf1⟩
/-- What Delete answers, and what it leaves. -/
def delE (l : List Nat) (k : Nat) : Nat × List Nat := if k ∈ l then (0, dropS l k) else (3, l)
theorem tx_delete (B t lim : Nat) (l : List Nat) (w : World) (h : TX w B t l lim) (hT : Tb w) (hg : 0 < B) (hBw : B ≤ w.heap.size) (k : Nat) (hk : k < 18446744073709551616) :
    Calls Tryd.prog 25 #[.pointer (some ⟨t, 0, none⟩), .int .u64 k] w fun e w' => e = .returned (.int .i64 (delE l k).1) ∧ TX w' B t (delE l k).2 lim ∧ FT B w w' := by
  obtain ⟨m, p, ad, rows, free, cv, fv, root, tk, h, hm, hb⟩ := h
  unfold delE
  by_cases hkl : k ∈ l
  · rw [if_pos hkl]
    have hup := up_dropS h.up k
    have hkd : k ∉ dropS l k := fun h => by rw [mem_dropS] at h; exact h.2 rfl
    have e := ins_drop h.up hkl
    obtain ⟨b1, b2, b3, b4, b5⟩ := hb
    refine (tdel_there t m p lim root (dropS l k) k ad rows free cv fv tk w (by rw [e]; exact h) hm hup hkd hk hT (fun e => ?_)).mono ?_
    · rcases e with e | e | e
      · omega
      · have := b4 _ e; omega
      · have := b5 _ e; omega
    rintro e w' ⟨rfl, rows', free', fv', h1, hx2, ⟨tk', _, _, h2⟩, h3⟩
    refine ⟨rfl, ⟨m, p, ad, rows', free', cv, fv', root, tk', h1, h2, b1, b2, b3, b4, fun q hq => ?_⟩, h3.mono (fun q hql e => ?_)⟩
    · rcases hx2 q hq with e | e
      · exact b5 q e
      · omega
    · rcases e with rfl | rfl | rfl | e | e
      · exact ⟨b1, _, _, h.blk, .inl rfl⟩
      · obtain ⟨a, b, c, d, hx⟩ := hm
        exact ⟨b2, _, _, hx, .inr (.inl rfl)⟩
      · exact ⟨b3, _, _, h.pl.blk, .inr (.inr (.inl rfl))⟩
      · obtain ⟨_, hc⟩ := own_blk h.pl.own q e
        exact ⟨b4 q e, _, _, hc, .inr (.inr (.inr (.inl rfl)))⟩
      · obtain ⟨_, hc⟩ := own_blk (Kd.own_of_R h.pl.fre) q e
        exact ⟨b5 q e, _, _, hc, .inr (.inr (.inr (.inr rfl)))⟩
  · rw [if_neg hkl]
    refine (tdel_none t m p lim root l ad rows free cv fv tk w h hm k hk hkl).mono ?_
    rintro e w' ⟨rfl, h1, ⟨tk', _, _, h2⟩, h3⟩
    exact ⟨rfl, ⟨m, p, ad, rows, free, cv, fv, root, tk', h1, h2, hb⟩, FT.of_one hm hb.2.1 h3⟩
end Go.Proofs.YtnhdcefoigmjpaaDoor

