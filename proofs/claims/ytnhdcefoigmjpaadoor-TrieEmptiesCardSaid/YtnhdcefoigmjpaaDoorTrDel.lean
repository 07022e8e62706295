/-
  What a key less makes of a trie: plain facts ahead of Delete's walk.
-/
import Derived.Test.YtnhdcefoigmjpaaDoorTrG

namespace Go.Proofs.YtnhdcefoigmjpaaDoor
open Go.RowKit Go.Proofs.YtnhdcefoigmjpaaDoorW.PrintWords Go.Proofs.YtnhdcefoigmjpaaDoorW.PrintMore
set_option linter.unusedVariables false
set_option linter.unusedSimpArgs false

theorem NdOk.del_old {W : World} {fv : Value} {ad : Ad} {l : List Nat} {i k : Nat} {x : Nd} (hl : Up l) (hk : k ∉ l) (hi : i < 10) (h : NdOk W fv ad (insS l k) i (pre i k) x) (hz : ∃ z, z ∈ l ∧ pre (i + 1) z = pre (i + 1) k) : Mid W fv ad (insS l k) l i (pre i k) x := by
  obtain ⟨e1, e2⟩ := kid_old ad ad hl hk i (pre i k) (by omega) (fun _ => hz) (fun _ _ => rfl)
  exact ⟨by rw [← e1]; exact h.b, h.n, h.lo, h.hi, by have := h.kids; rw [if_pos hi] at this ⊢; rw [← e2]; exact this, h.apart⟩
/-- A bit cleared, and (above the last level) a child taken out. -/
theorem NdOk.del_gone {W : World} {fv : Value} {ad : Ad} {l : List Nat} {i k : Nat} {x : Nd} {ka : Option Addr} {kn kc : Nat} (hl : Up l) (hk : k ∉ l) (hi : i < 10) (h : NdOk W fv ad (insS l k) i (pre i k) x) (hz : ¬ ∃ z, z ∈ l ∧ pre (i + 1) z = pre (i + 1) k)
    (hR : Kd.R (Kd.int .i64) 3 W 0 (fun _ => True) (.slice ka kn kc) ((kidC ad (insS l k) i (pre i k)).take (rankL (listW x.b) (dig i k : Nat)) ++ (kidC ad (insS l k) i (pre i k)).drop (rankL (listW x.b) (dig i k : Nat) + 1)))
    (hap : ∀ q, (Value.slice ka kn kc).ownBlock = some q → fv.ownBlock ≠ some q) : Mid W fv ad (insS l k) l i (pre i k) ⟨clrN x.b (dig i k : Nat), ka, kn, kc, x.n, x.lo, x.hi⟩ := by
  obtain ⟨e1, e2⟩ := kid_gone ad hl hk i (by omega) (fun z hz2 e => hz ⟨z, hz2, e⟩)
  refine ⟨by rw [e1, h.b], h.n, h.lo, h.hi, ?_, hap⟩
  rw [if_pos hi, e2, ← h.b]; exact hR
theorem NdOk.del_ten {W : World} {fv : Value} {ad : Ad} {l : List Nat} {k : Nat} {x : Nd} (hl : Up l) (hk : k ∉ l) (h : NdOk W fv ad (insS l k) 10 (pre 10 k) x) : Mid W fv ad (insS l k) l 10 (pre 10 k) ⟨clrN x.b (dig 10 k : Nat), x.ka, x.kn, x.kc, x.n, x.lo, x.hi⟩ := by
  obtain ⟨e1, _⟩ := kid_gone ad hl hk 10 (Nat.le_refl _) (fun z hz2 e => hk (by rw [pre_key, pre_key] at e; rwa [← e]))
  exact ⟨by rw [e1, h.b], h.n, h.lo, h.hi, h.kids, h.apart⟩
theorem Mid.cnt {W : World} {fv : Value} {ad : Ad} {l : List Nat} {i k : Nat} {x : Nd} (hl : Up l) (hk : k ∉ l) (h : Mid W fv ad (insS l k) l i (pre i k) x) : x.n = (cls l i (pre i k)).length + 1 := by
  rw [h.n, cls_ins hl hk, if_pos rfl, len_insS]
theorem Mid.shrunk {W : World} {fv : Value} {ad : Ad} {l : List Nat} {i k lo hi n : Nat} {x : Nd} (hl : Up l) (hk : k ∉ l) (h : Mid W fv ad (insS l k) l i (pre i k) x) (hn : x.n = n + 1) (hlo : lo = (cls l i (pre i k)).headD 0) (hhi : hi = (cls l i (pre i k)).getLastD 0) : NdOk W fv ad l i (pre i k) ⟨x.b, x.ka, x.kn, x.kc, n, lo, hi⟩ :=
  ⟨h.b, by have := h.cnt hl hk; show n = _; omega, hlo, hhi, h.kids, h.apart⟩
theorem Mid.gone {W : World} {fv : Value} {ad : Ad} {l l2 : List Nat} {i k d : Nat} {x : Nd} (hd : Dep l k d) (hi : i ≤ 10) (h : Mid W fv ad l2 l i (pre i k) x) : (x.b = 0) ↔ d ≤ i := by
  rw [h.b, bits_zero]
  constructor
  · intro e
    rcases Nat.lt_or_ge i d with h1 | h1
    · obtain ⟨z, hz, e2⟩ := (hd.2 i (by omega)).2 h1
      have : z ∈ cls l i (pre i k) := (mem_cls l i _ z).2 ⟨hz, e2⟩
      rw [e] at this; cases this
    · exact h1
  · intro e
    refine List.eq_nil_iff_forall_not_mem.2 (fun z hz => ?_)
    have := (hd.2 i (by omega)).1 ⟨z, (mem_cls l i _ z).1 hz⟩
    omega
/-- What the loop of Delete keeps: levels from j on are those of the keys without k. -/
structure DI (W0 W : World) (m p : Nat) (l : List Nat) (k d j lim : Nat) (ad : Ad) (rows' : List (Option Nd)) (free' : List Nat) (cv fv fv' : Value) : Prop where
  ni : NI W fv' ad (fun i => if j ≤ i then l else insS l k) rows'
  pl : Pl W p m rows' free' lim cv fv'
  live : liveN rows' + (11 - max d j) = used (insS l k)
  xf : Ext W0.heap.size fv fv'
  fr : Fr (PS p cv fv) W0 W
theorem DI.nw {W0 W W1 : World} {m p lim d k j : Nat} {l : List Nat} {ad : Ad} {rows' : List (Option Nd)} {free' : List Nat} {cv fv fv' : Value} (h : DI W0 W m p l k d j lim ad rows' free' cv fv fv') (hf : Nw W W1) : DI W0 W1 m p l k d j lim ad rows' free' cv fv fv' :=
  ⟨h.ni.kept hf (fun _ _ h => h) (Ext.refl _ _), h.pl.nw hf, h.live, h.xf, h.fr.trans (hf.mono (fun _ _ h => h.elim))⟩
theorem DI.fr_trans {W0 W W6 : World} {m p lim d k j : Nat} {l : List Nat} {ad : Ad} {rows' : List (Option Nd)} {free' : List Nat} {cv fv fv' : Value} (hl : DI W0 W m p l k d j lim ad rows' free' cv fv fv') (hfr : Fr (PS p cv fv') W W6) : Fr (PS p cv fv) W0 W6 :=
  hl.fr.trans_of hfr (fun q hq hp => by
    rcases hp with e | e | e
    · exact .inl e
    · exact .inr (.inl e)
    · rcases hl.xf q e with h | h
      · exact .inr (.inr h)
      · omega)
/-- A level whose node stays. -/
theorem di_put {W0 W W6 : World} {m p lim d k i : Nat} {l : List Nat} {ad : Ad} {rows' rows2 : List (Option Nd)} {free' : List Nat} {cv fv fv' : Value} {x2 : Nd} (hl : DI W0 W m p l k d (i + 1) lim ad rows' free' cv fv fv') (hup : Up l) (hkl : k ∉ l) (hi : i ≤ 10) (hd : Dep l k d) (hid : i < d)
    (hnok : NdOk W fv' ad l i (pre i k) x2) (hpl : Pl W6 p m rows2 free' lim cv fv') (hfr : Fr (PS p cv fv') W W6)
    (hrx : rows2[ad i (pre i k)]? = some (some x2)) (hro : ∀ b y, b ≠ ad i (pre i k) → rows'[b]? = some (some y) → rows2[b]? = some (some y)) (hlive : liveN rows2 = liveN rows') :
    DI W0 W6 m p l k d i lim ad rows2 free' cv fv fv' := by
  have hLi : (if i + 1 ≤ i then l else insS l k) = insS l k := if_neg (by omega)
  obtain ⟨z, hz, ez⟩ := (hd.2 i (by omega)).2 hid
  have hput := hl.ni.put (S := PS p cv fv') (W1 := W6) (fv' := fv') (ad' := ad) (rows' := rows2) i hi z (ad i (pre i k)) l x2 hz
    (fun y hy hne => by
      rw [hLi, cls_ins hup hkl, if_neg (fun e => hne (by rw [ez, e]))]
      exact ⟨(mem_insS l k y).2 (.inr hy), rfl⟩)
    (fun i' e y hy => by rw [if_neg (by omega)] at hy; rw [hLi]; exact hy)
    (fun i' q => by split <;> rename_i e <;> first | rw [e.1, e.2, ez] | rfl)
    (fun _ => by rw [ez])
    (fun i' hi' y hy e => by
      have h1 := hl.ni.inj i' i hi' hi y hy k (by rw [hLi]; exact (mem_insS l k k).2 (.inl rfl)) e
      exact ⟨h1.1, by rw [h1.2, ez]⟩)
    hrx hro hfr (fun q hq => ps_kid hl.pl q hq) (Ext.refl _ _)
    (by rw [ez]; exact hnok.kept hfr (fun q hq => ps_kid hl.pl q (hnok.kidB hq)) (Ext.refl _ _))
  refine ⟨hput.congr (fun i' hi' => ?_), hpl, ?_, hl.xf, hl.fr_trans hfr⟩
  · by_cases e : i' = i
    · rw [if_pos e, if_pos (by omega)]
    · rw [if_neg e]
      by_cases e2 : i ≤ i'
      · rw [if_pos e2, if_pos (by omega)]
      · rw [if_neg e2, if_neg (by omega)]
  · have := hl.live
    rw [hlive]; omega
/-- A level whose node goes. -/
theorem di_free {W0 W W6 : World} {m p lim d k i : Nat} {l : List Nat} {ad : Ad} {rows' : List (Option Nd)} {free' : List Nat} {cv fv fv' fv2 : Value} {x0 : Nd} (hl : DI W0 W m p l k d (i + 1) lim ad rows' free' cv fv fv') (hup : Up l) (hkl : k ∉ l) (hi : i ≤ 10) (hd : Dep l k d) (hid : d ≤ i)
    (hx0 : rows'[ad i (pre i k)]? = some (some x0)) (hpl : Pl W6 p m (rows'.set (ad i (pre i k)) none) (free' ++ [ad i (pre i k)]) lim cv fv2) (hxf : Ext W.heap.size fv' fv2) (hfr : Fr (PS p cv fv') W W6) :
    DI W0 W6 m p l k d i lim ad (rows'.set (ad i (pre i k)) none) (free' ++ [ad i (pre i k)]) cv fv fv2 := by
  have hLi : (if i + 1 ≤ i then l else insS l k) = insS l k := if_neg (by omega)
  have hki : k ∈ (fun i' => if i + 1 ≤ i' then l else insS l k) i := by show k ∈ (if i + 1 ≤ i then l else insS l k); rw [hLi]; exact (mem_insS l k k).2 (.inl rfl)
  have hdrop := hl.ni.drop (S := PS p cv fv') (W1 := W6) (fv' := fv2) (rows' := rows'.set (ad i (pre i k)) none) i hi k l hki
    (fun y hy => by
      have hne : pre i y ≠ pre i k := fun e => by have := (hd.2 i (by omega)).1 ⟨y, hy, e⟩; omega
      refine ⟨hne, ?_⟩
      rw [hLi, cls_ins hup hkl, if_neg (fun e => hne e.symm)]
      exact ⟨(mem_insS l k y).2 (.inr hy), rfl⟩)
    (fun b y hb h => by rw [List.getElem?_set_ne (fun e => hb e.symm)]; exact h)
    (fun i' hi' hne y hy e => hne ((hl.ni.inj i' i hi' hi y hy k hki e).1))
    hfr (fun q hq => ps_kid hl.pl q hq) hxf
  have hlv := liveN_set rows' (ad i (pre i k)) none _ hx0
  simp only [Option.isSome_some, if_true, Option.isSome_none] at hlv
  refine ⟨hdrop.congr (fun i' hi' => ?_), hpl, ?_, hl.xf.trans hxf hl.fr.size, hl.fr_trans hfr⟩
  · by_cases e : i' = i
    · rw [if_pos e, if_pos (by omega)]
    · rw [if_neg e]
      by_cases e2 : i ≤ i'
      · rw [if_pos e2, if_pos (by omega)]
      · rw [if_neg e2, if_neg (by omega)]
  · have := hl.live
    simp at hlv
    have := hd.1
    omega
theorem di_meter {W0 W : World} {m p lim d k j : Nat} {l : List Nat} {ad : Ad} {rows rows' : List (Option Nd)} {free free' : List Nat} {cv fv fv' : Value} {tk : Int} (h : Pl W0 p m rows free lim cv fv) (hm : MT W0 m tk) (hl : DI W0 W m p l k d j lim ad rows' free' cv fv fv') : MT W m tk := by
  obtain ⟨a, b, c, e, hb⟩ := hm
  exact ⟨a, b, c, e, hl.fr.blk hb (ps_typ h hb (by decide) (by decide) (by decide))⟩
/-- The whole of Delete: the first node's number stays (of no key, it does not matter), and the keys are one less. -/
theorem td_done {W0 W : World} {t m p lim root d k : Nat} {l : List Nat} {ad : Ad} {rows rows' : List (Option Nd)} {free free' : List Nat} {cv fv fv' : Value} (h : TI W0 t m p (insS l k) lim ad rows free cv fv root) (hl : DI W0 W m p l k d 0 lim ad rows' free' cv fv fv')
    (hup : Up l) (hkl : k ∉ l) (hus : used (insS l k) = used l + (11 - d)) :
    TI (W.setCell ⟨t, 3, none⟩ (.int .i64 (l.length : Nat))) t m p l lim ad rows' free' cv fv' root ∧ Fr (TS t m p cv fv) W0 (W.setCell ⟨t, 3, none⟩ (.int .i64 (l.length : Nat))) := by
  have hbt := hl.fr.blk h.blk (ps_typ h.pl h.blk (by decide) (by decide) (by decide))
  have hF : Fr (One t) W (W.setCell ⟨t, 3, none⟩ (.int .i64 (l.length : Nat))) := (Fr.refl _ _).set (One.self t) _ _
  have hmem : ∀ x, x ∈ l → x ∈ insS l k := fun x hx => (mem_insS l k x).2 (.inr hx)
  refine ⟨⟨blk_set hbt 3 _, hl.pl.fr hF (typ_ne hl.pl.blk hbt (by decide)) (fun q hq => ?_) (fun q hq => ?_), (hl.ni.congr (fun i _ => by rw [if_pos (Nat.zero_le i)])).kept hF (fun q hq => ?_) (Ext.refl _ _), by have := hl.live; omega, hup, fun x hx => h.bd x (hmem x hx), by have := h.len; rw [len_insS] at this; omega, fun hne => h.root (fun e => by have := len_insS l k; rw [e] at this; simp at this)⟩, ?_⟩
  · obtain ⟨_, hc⟩ := own_blk hl.pl.own q hq
    exact typ_ne hc hbt (by decide)
  · obtain ⟨_, hc⟩ := own_blk (Kd.own_of_R hl.pl.fre) q hq
    exact typ_ne hc hbt (by decide)
  · obtain ⟨_, _, hc⟩ := hq
    exact typ_ne hc hbt (by decide)
  · exact (hl.fr.mono (fun q _ h => .inr (.inr h))).trans (hF.mono (fun q _ h => .inl h))
end Go.Proofs.YtnhdcefoigmjpaaDoor
