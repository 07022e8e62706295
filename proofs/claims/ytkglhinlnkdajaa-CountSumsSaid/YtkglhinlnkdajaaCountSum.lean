/-
  The contracts of count.Sum and count.Worst, and the walk of the law CountSums.
-/
import Derived.Test.YtkglhinlnkdajaaCountLaw2
namespace Go.Proofs.Ytkglhinlnkdajaa
open Go.RowKit Go.Proofs.YtkglhinlnkdajaaW.PrintWords Go.Proofs.YtkglhinlnkdajaaW.PrintMore Go.Proofs.Ytkglhinlnkdajaa.PCountPlays
attribute [local go_sem] max2_int min2_int max_two min_two
set_option linter.unusedVariables false
set_option linter.unusedSimpArgs false

/-- A row of pointers. -/
def PK : Kd (Option Addr) := Kd.scalar Value.pointer (fun _ => rfl)

theorem PK.at_ {w : World} {A : Option Addr} {n : Nat} {xs : List (Option Addr)} (h : PK.C w A n xs) (i : Nat) (h1 : i < n) : ∃ ad, A = some ad ∧ w.cell? (ad.add i) = some (.pointer (xs.getD i none)) := by
  obtain ⟨ad, e, hc⟩ := ReadsOf.at_ (Kd.reads_of_C (enc := Value.pointer) (d := (none : Option Addr)) (h1 := fun _ => rfl) h) (i : Int) (by omega) (by omega)
  exact ⟨ad, e, by simpa [rdOf] using hc⟩

/-- A meter that a list holds: none, or one that is known. -/
def Seen (W : World) (p : Option Addr) (rc pk : Int) : Prop :=
  (p = none ∧ rc = 0 ∧ pk = 0) ∨ ∃ b r c t s, p = some ⟨b, 0, none⟩ ∧ Mt W b r c t pk s ∧ rc = r + c ∧ 0 ≤ r ∧ r ≤ 1000000 ∧ 0 ≤ c ∧ c ≤ 1000000 ∧ 0 ≤ pk ∧ pk ≤ 1000000
theorem Seen.step {W W1 : World} {p : Option Addr} {rc pk : Int} (h : Seen W p rc pk) (hf : Nw W W1) : Seen W1 p rc pk := by
  rcases h with h | ⟨b, r, c, t, s, h1, h2, h3⟩
  · exact .inl h
  · exact .inr ⟨b, r, c, t, s, h1, h2.kept hf (fun h => h), h3⟩
theorem Seen.bd {W : World} {p : Option Addr} {rc pk : Int} (h : Seen W p rc pk) : 0 ≤ rc ∧ rc ≤ 2000000 ∧ 0 ≤ pk ∧ pk ≤ 1000000 := by
  rcases h with ⟨_, rfl, rfl⟩ | ⟨b, r, c, t, s, h1, h2, h3⟩ <;> omega

theorem reads_seen {W : World} {p : Option Addr} {rc pk : Int} (h : Seen W p rc pk) : ∃ r c : Int, rc = r + c ∧ 0 ≤ r ∧ r ≤ 1000000 ∧ 0 ≤ c ∧ c ≤ 1000000 ∧
    (∀ W1, Nw W W1 → Calls Try.prog 13 #[.pointer p] W1 fun e w' => e = .returned (.int .i64 r) ∧ Nw W1 w') ∧
    (∀ W1, Nw W W1 → Calls Try.prog 14 #[.pointer p] W1 fun e w' => e = .returned (.int .i64 c) ∧ Nw W1 w') ∧
    (∀ W1, Nw W W1 → Calls Try.prog 15 #[.pointer p] W1 fun e w' => e = .returned (.int .i64 pk) ∧ Nw W1 w') := by
  rcases h with ⟨rfl, rfl, rfl⟩ | ⟨b, r, c, t, s, rfl, h2, h3, h4, h5, h6, h7, h8⟩
  · exact ⟨0, 0, rfl, by omega, by omega, by omega, by omega, fun W1 _ => reads_nil W1, fun W1 _ => calls_nil W1, fun W1 _ => peak_nil W1⟩
  · exact ⟨r, c, h3, h4, h5, h6, h7, fun W1 hf => reads_calls _ _ _ _ _ _ _ (h2.kept hf (fun h => h)), fun W1 hf => calls_calls _ _ _ _ _ _ _ (h2.kept hf (fun h => h)), fun W1 hf => peak_calls _ _ _ _ _ _ _ (h2.kept hf (fun h => h))⟩

def sumOf (vs : List (Option Addr × Int × Int)) : Int := vs.foldl (fun n v => n + v.2.1) 0
def worstOf (vs : List (Option Addr × Int × Int)) : Int := vs.foldl (fun n v => mx n v.2.2) 0
theorem sumOf_snoc (vs : List (Option Addr × Int × Int)) (v : Option Addr × Int × Int) : sumOf (vs ++ [v]) = sumOf vs + v.2.1 := by simp [sumOf, List.foldl_append]
theorem worstOf_snoc (vs : List (Option Addr × Int × Int)) (v : Option Addr × Int × Int) : worstOf (vs ++ [v]) = mx (worstOf vs) v.2.2 := by simp [worstOf, List.foldl_append]
theorem sumOf_bd (vs : List (Option Addr × Int × Int)) (h : ∀ v, v ∈ vs → 0 ≤ v.2.1 ∧ v.2.1 ≤ 2000000) : 0 ≤ sumOf vs ∧ sumOf vs ≤ 2000000 * vs.length := by
  suffices k : ∀ vs : List (Option Addr × Int × Int), (∀ v, v ∈ vs → 0 ≤ v.2.1 ∧ v.2.1 ≤ 2000000) → 0 ≤ sumOf vs.reverse ∧ sumOf vs.reverse ≤ 2000000 * vs.length by
    have := k vs.reverse (fun v hv => h v (by simpa using hv)); simpa using this
  intro vs
  induction vs with
  | nil => simp [sumOf]
  | cons a vs ih =>
    intro h
    have i := ih (fun v hv => h v (List.mem_cons_of_mem _ hv))
    have j := h a List.mem_cons_self
    rw [List.reverse_cons, sumOf_snoc]; simp only [List.length_cons]; omega

set_option maxHeartbeats 1000000 in
theorem sum_calls (A : Option Addr) (c : Nat) (vs : List (Option Addr × Int × Int)) (w : World) (hr : PK.C w A vs.length (vs.map (·.1))) (hs : ∀ v, v ∈ vs → Seen w v.1 v.2.1 v.2.2) (hn : vs.length ≤ 1000) :
    Calls Try.prog 20 #[.slice A vs.length c] w fun e w' => e = .returned (.int .i64 (sumOf vs)) ∧ Nw w w' := by
  have HR := Lib.hid hr
  have HS := Lib.hid hs
  clear hr hs
  go_enter Try.func20, Try.ntmps20
  go_wp2
  go_loopw [3, 8] (fun n i wr => ∃ k : Nat, k ≤ vs.length ∧ i = .int .i64 k ∧ n = .int .i64 (sumOf (vs.take k)) ∧ Hid (Nw w wr)) (fun _ i _ => vs.length - (intOf i).toNat)
  case atStart => exact ⟨0, Nat.zero_le _, rfl, rfl, Lib.hid (Fr.refl _ _)⟩
  case round =>
    obtain ⟨k, hk, rfl, rfl, HF⟩ := hrel
    by_cases hlt : k < vs.length
    · obtain ⟨ad, hA, hcell⟩ := PK.at_ HR.out k hlt
      cases hA
      have hcell := HF.out.cell hcell (fun h => h)
      have hv : (vs.map (·.1)).getD k none = vs[k].1 := by simp [List.getD, hlt]
      rw [hv] at hcell
      have HT := Lib.hid (List.take_succ_eq_append_getElem hlt)
      have hse := HS.out vs[k] (List.getElem_mem hlt)
      have hbs := sumOf_bd (vs.take k) (fun v hv => by have := (HS.out v (List.mem_of_mem_take hv)).bd; omega)
      have hlen : (vs.take k).length ≤ k := List.length_take_le _ _
      obtain ⟨v, hve⟩ : ∃ v, v = vs[k] := ⟨_, rfl⟩
      rw [← hve] at hcell HT hse
      clear hve hv
      obtain ⟨p, rc, pq⟩ := v
      obtain ⟨r, c', hrc, b1, b2, b3, b4, C1, C2, C3⟩ := reads_seen hse
      have HRC := Lib.hid hrc
      have D1 := Lib.hid C1
      have D2 := Lib.hid C2
      clear C1 C2 C3 hrc hse
      dsimp only at hcell
      obtain ⟨S, hS⟩ : ∃ S, S = sumOf (vs.take k) := ⟨_, rfl⟩
      rw [← hS] at hbs ⊢
      have HSu := Lib.hid hS
      clear hS
      go_wp2_with (first | (go_at_call 13; refine (D1.out _ HF.out).mono ?_; rintro e w2 ⟨rfl, hf⟩; have HF' := Lib.hid (HF.out.trans hf); clear hf HF; have HF := HF'; clear HF') | (go_at_call 14; refine (D2.out _ HF.out).mono ?_; rintro e w2 ⟨rfl, hf⟩; have HF' := Lib.hid (HF.out.trans hf); clear hf HF; have HF := HF'; clear HF'))
      go_roundw
      case rel =>
        refine ⟨k + 1, by omega, by go_num, ?_, HF⟩
        rw [HT.out, sumOf_snoc, ← HSu.out, HRC.out]
      case measure => simp [intOf]; omega
    · go_wp2
      go_ret
      rw [List.take_of_length_le (by omega)]
      exact ⟨rfl, HF.out⟩

set_option maxHeartbeats 1000000 in
theorem worst_calls (A : Option Addr) (c : Nat) (vs : List (Option Addr × Int × Int)) (w : World) (hr : PK.C w A vs.length (vs.map (·.1))) (hs : ∀ v, v ∈ vs → Seen w v.1 v.2.1 v.2.2) (hn : vs.length ≤ 1000) :
    Calls Try.prog 21 #[.slice A vs.length c] w fun e w' => e = .returned (.int .i64 (worstOf vs)) ∧ Nw w w' := by
  have HR := Lib.hid hr
  have HS := Lib.hid hs
  clear hr hs
  go_enter Try.func21, Try.ntmps21
  go_wp2
  go_loopw [3, 8] (fun n i wr => ∃ k : Nat, k ≤ vs.length ∧ i = .int .i64 k ∧ n = .int .i64 (worstOf (vs.take k)) ∧ Hid (Nw w wr)) (fun _ i _ => vs.length - (intOf i).toNat)
  case atStart => exact ⟨0, Nat.zero_le _, rfl, rfl, Lib.hid (Fr.refl _ _)⟩
  case round =>
    obtain ⟨k, hk, rfl, rfl, HF⟩ := hrel
    by_cases hlt : k < vs.length
    · obtain ⟨ad, hA, hcell⟩ := PK.at_ HR.out k hlt
      cases hA
      have hcell := HF.out.cell hcell (fun h => h)
      have hv : (vs.map (·.1)).getD k none = vs[k].1 := by simp [List.getD, hlt]
      rw [hv] at hcell
      have HT := Lib.hid (List.take_succ_eq_append_getElem hlt)
      have hse := HS.out vs[k] (List.getElem_mem hlt)
      obtain ⟨v, hve⟩ : ∃ v, v = vs[k] := ⟨_, rfl⟩
      rw [← hve] at hcell HT hse
      clear hve hv
      obtain ⟨p, rc, pq⟩ := v
      obtain ⟨r, c', hrc, b1, b2, b3, b4, C1, C2, C3⟩ := reads_seen hse
      have D3 := Lib.hid C3
      clear C1 C2 C3 hrc hse
      dsimp only at hcell
      obtain ⟨S, hS⟩ : ∃ S, S = worstOf (vs.take k) := ⟨_, rfl⟩
      rw [← hS]
      have HSu := Lib.hid hS
      clear hS
      go_wp2_with (go_at_call 15; refine (D3.out _ HF.out).mono ?_; rintro e w2 ⟨rfl, hf⟩; have HF' := Lib.hid (HF.out.trans hf); clear hf HF; have HF := HF'; clear HF')
      go_roundw
      case rel =>
        refine ⟨k + 1, by omega, by go_num, ?_, HF⟩
        rw [HT.out, worstOf_snoc, ← HSu.out]; rfl
      case measure => simp [intOf]; omega
    · go_wp2
      go_ret
      rw [List.take_of_length_le (by omega)]
      exact ⟨rfl, HF.out⟩


theorem sum_is {A : Option Addr} {c : Nat} {vs : List (Option Addr × Int × Int)} {w : World} {q : Int} (hq : sumOf vs = q) (hr : PK.C w A vs.length (vs.map (·.1))) (hs : ∀ v, v ∈ vs → Seen w v.1 v.2.1 v.2.2) (hn : vs.length ≤ 1000) :
    Calls Try.prog 20 #[.slice A vs.length c] w fun e w' => e = .returned (.int .i64 q) ∧ Nw w w' := hq ▸ sum_calls A c vs w hr hs hn
theorem worst_is {A : Option Addr} {c : Nat} {vs : List (Option Addr × Int × Int)} {w : World} {q : Int} (hq : worstOf vs = q) (hr : PK.C w A vs.length (vs.map (·.1))) (hs : ∀ v, v ∈ vs → Seen w v.1 v.2.1 v.2.2) (hn : vs.length ≤ 1000) :
    Calls Try.prog 21 #[.slice A vs.length c] w fun e w' => e = .returned (.int .i64 q) ∧ Nw w w' := hq ▸ worst_calls A c vs w hr hs hn

theorem PK.new (W : World) (xs : List (Option Addr)) (h : xs.length ≤ maxLen) : PK.R 25 (W.alloc (.cells (xs.map Value.pointer).toArray 25)) W.heap.size (fun _ => True) (.slice (some ⟨W.heap.size, 0, none⟩) xs.length xs.length) xs := by
  refine Kd.R_of_own ?_ (fun _ _ => trivial)
  have := World.ownsRow_lit (base := W.heap.size) (e := 25) (size := 1) W (xs.map Value.pointer).toArray xs.length (Nat.le_refl _) h (by simp)
  simpa [encs] using this
theorem PK.nil (W : World) : PK.C W none 0 [] := by
  obtain ⟨A, c, h, _, hC⟩ := Kd.R_reads (Kd.R_nil PK 25 W 0 (fun _ => True))
  injection h with h1
  subst h1
  exact hC
theorem info_pk : (Try.prog.info? 25).map (fun i => (i.zero, i.size, i.bytes)) = some (some (.pointer none), 1, 8) := by kernel_rfl

/-- Two scripts, their meters, and the list of meters. -/
structure S5 (W0 W : World) (x y : List Int) (A1 A2 A : Option Addr) (vs : List (Option Addr × Int × Int)) : Prop where
  c1 : Kd.C (Kd.int .u8) W A1 x.length x
  c2 : Kd.C (Kd.int .u8) W A2 y.length y
  cs : PK.C W A vs.length (vs.map (·.1))
  sn : ∀ v, v ∈ vs → Seen W v.1 v.2.1 v.2.2
  nw : Nw W0 W
theorem S5.step {W0 W W1 : World} {x y : List Int} {A1 A2 A : Option Addr} {vs : List (Option Addr × Int × Int)} (h : S5 W0 W x y A1 A2 A vs) (hf : Nw W W1) : S5 W0 W1 x y A1 A2 A vs :=
  ⟨Kd.C_below h.c1 (hf.below (fun _ _ h => h)), Kd.C_below h.c2 (hf.below (fun _ _ h => h)), Kd.C_below h.cs (hf.below (fun _ _ h => h)), fun v hv => (h.sn v hv).step hf, h.nw.trans hf⟩

theorem mx_max (a b : Int) : mx a b = max a b := by unfold mx; rw [Int.max_def]; split <;> split <;> omega
theorem sums3 (bx bo : Nat) (x y : List Int) (vs : List (Option Addr × Int × Int)) (h : vs = [(some ⟨bx, 0, none⟩, cnt x 1 + cnt x 2, pk x), (none, 0, 0), (some ⟨bo, 0, none⟩, cnt y 1 + cnt y 2, pk y)]) :
    sumOf vs = cnt x 1 + cnt x 2 + cnt y 1 + cnt y 2 ∧ ((pk x < pk y ∧ worstOf vs = pk y) ∨ (¬ pk x < pk y ∧ worstOf vs = pk x)) := by
  subst h
  have := pk_bd x
  have := pk_bd y
  simp only [sumOf, worstOf, List.foldl_cons, List.foldl_nil, mx_max]
  omega
theorem sums4 (bx bo : Nat) (x y : List Int) (vs : List (Option Addr × Int × Int)) (h : vs = [(some ⟨bx, 0, none⟩, cnt x 1 + cnt x 2, pk x), (none, 0, 0), (some ⟨bo, 0, none⟩, cnt y 1 + cnt y 2, pk y), (some ⟨bx, 0, none⟩, cnt x 1 + cnt x 2, pk x)]) :
    sumOf vs = cnt x 1 + cnt x 2 + cnt y 1 + cnt y 2 + (cnt x 1 + cnt x 2) ∧ ((pk x < pk y ∧ worstOf vs = pk y) ∨ (¬ pk x < pk y ∧ worstOf vs = pk x)) := by
  subst h
  have := pk_bd x
  have := pk_bd y
  simp only [sumOf, worstOf, List.foldl_cons, List.foldl_nil, mx_max]
  omega
theorem mt_seen {W : World} {b : Nat} {l : List Int} (h : MtOf W b l) (hl : l.length ≤ 1000) : Seen W (some ⟨b, 0, none⟩) (cnt l 1 + cnt l 2) (pk l) := by
  have := cnt_bd l 1
  have := cnt_bd l 2
  have := pk_bd l
  exact .inr ⟨b, _, _, _, _, rfl, h, rfl, by omega, by omega, by omega, by omega, by omega, by omega⟩

theorem s5_of {W0 W W1 : World} {bx bo : Nat} {x y : List Int} {A1 A2 A : Option Addr} {c base : Nat} {ok : Nat → Prop} {vs : List (Option Addr × Int × Int)} {ps : List (Option Addr)} (h : S2 W0 W bx bo x y A1 A2) (hx : x.length ≤ 1000) (hy : y.length ≤ 1000) (hf : Nw W W1)
    (ho : PK.R 25 W1 base ok (.slice A ps.length c) ps) (hp : ps = vs.map (·.1)) (hv : ∀ v, v ∈ vs → v = (some ⟨bx, 0, none⟩, cnt x 1 + cnt x 2, pk x) ∨ v = (none, 0, 0) ∨ v = (some ⟨bo, 0, none⟩, cnt y 1 + cnt y 2, pk y)) : S5 W0 W1 x y A1 A2 A vs := by
  have h1 := h.step hf
  subst hp
  refine ⟨h1.c1, h1.c2, ?_, ?_, h1.nw⟩
  · obtain ⟨A', c', e, _, hC⟩ := Kd.R_reads ho
    injection e with e1 _ _
    subst e1
    simpa using hC
  · intro v hvv
    rcases hv v hvv with rfl | rfl | rfl
    · exact mt_seen h1.mx hx
    · exact .inl ⟨rfl, rfl, rfl⟩
    · exact mt_seen h1.mo hy

set_option maxHeartbeats 1000000 in
theorem sums_calls (A B : Option Addr) (c d : Nat) (l m : List Int) (tw : Bool) (w : World) (hr : Kd.C (Kd.int .u8) w A l.length l) (hc : l.length ≤ c) (hb : ∀ a, a ∈ l → 0 ≤ a ∧ a ≤ 255) (hn : l.length ≤ 140737488351232)
    (hr2 : Kd.C (Kd.int .u8) w B m.length m) (hd : m.length ≤ d) (hb2 : ∀ a, a ∈ m → 0 ≤ a ∧ a ≤ 255) (hn2 : m.length ≤ 140737488351232) :
    Calls Try.prog 5 #[.slice A l.length c, .slice B m.length d, .bool tw] w fun e w' => e = .returned (.bool true) ∧ Nw w w' := by
  have hby := bytes_f 100 l hn
  obtain ⟨x, hxe⟩ : ∃ x, x = l.take 100 := ⟨_, rfl⟩
  rw [← hxe] at hby
  have HB1 := Lib.hid (fun a ha => hb a (List.mem_of_mem_take (by rw [← hxe]; exact ha)) : ∀ a, a ∈ x → 0 ≤ a ∧ a ≤ 255)
  have hx2 : x.length ≤ 100 := by rw [hxe]; exact List.length_take_le _ _
  have hby2 := bytes_f 100 m hn2
  obtain ⟨y, hye⟩ : ∃ y, y = m.take 100 := ⟨_, rfl⟩
  rw [← hye] at hby2
  have HB2 := Lib.hid (fun a ha => hb2 a (List.mem_of_mem_take (by rw [← hye]; exact ha)) : ∀ a, a ∈ y → 0 ≤ a ∧ a ≤ 255)
  have hy2 : y.length ≤ 100 := by rw [hye]; exact List.length_take_le _ _
  have HBY := Lib.hid hby
  have HBY2 := Lib.hid hby2
  have HR := Lib.hid hr
  have HC0 := Lib.hid hc
  have HR2 := Lib.hid hr2
  have HC2 := Lib.hid hd
  clear hby hby2 hxe hye hb hb2 hr hc hr2 hd
  have px := pk_bd x
  have py := pk_bd y
  have rx := cnt_bd x 1
  have ry := cnt_bd y 1
  have qx := cnt_bd x 2
  have qy := cnt_bd y 2
  go_enter Try.func5, Try.ntmps5
  go_wp2_with (go_at_call 6; refine (awake_calls _).mono ?_; rintro e w1 ⟨rfl, hf⟩; have HF := Lib.hid hf; have HRa := Lib.hid (Kd.C_below HR.out (hf.below (fun _ _ h => h))); have HR2a := Lib.hid (Kd.C_below HR2.out (hf.below (fun _ _ h => h))); clear hf HR HR2)
  go_wp2_with (go_at_call 7; refine (stepstoneref01_Bytes.calls _ _ _ _ _ _ _ HRa.out HC0.out HBY.out).mono ?_; rintro e w2 ⟨v0, rfl, ho, hf⟩; obtain ⟨A1, c1, rfl, hc1, hC1⟩ := Kd.R_reads ho; have HCa := Lib.hid hC1; have HF1 := Lib.hid (HF.out.trans (Fr.of_below hf)); have HR2b := Lib.hid (Kd.C_below HR2a.out hf); clear hC1 ho hf HF HRa HR2a)
  go_wp2_with (go_at_call 7; refine (stepstoneref01_Bytes.calls _ _ _ _ _ _ _ HR2b.out HC2.out HBY2.out).mono ?_; rintro e w3 ⟨v1, rfl, ho, hf⟩; obtain ⟨A2, c2, rfl, hc2, hC1⟩ := Kd.R_reads ho; have HCb := Lib.hid hC1; have HF := Lib.hid (HF1.out.trans (Fr.of_below hf)); have HCa1 := Lib.hid (Kd.C_below HCa.out hf); clear hC1 ho hf HF1 HR2b HCa)
  go_wp2_with (go_at_call 8; refine (play_calls _ _ _ _ HCa1.out hc1 HB1.out (by omega)).mono ?_; rintro e w4 ⟨rfl, hm, hf⟩; have HM := Lib.hid hm; have HCa := Lib.hid (Kd.C_below HCa1.out (hf.below (fun _ _ h => h))); have HCb1 := Lib.hid (Kd.C_below HCb.out (hf.below (fun _ _ h => h))); have HF1 := Lib.hid (HF.out.trans hf); clear hm hf HCa1 HCb HF)
  go_wp2_with (go_at_call 8; refine (play_calls _ _ _ _ HCb1.out hc2 HB2.out (by omega)).mono ?_; rintro e w5 ⟨rfl, hm, hf⟩; have HS := Lib.hid (S2.mk (HM.out.kept hf (fun h => h)) hm (Kd.C_below HCa.out (hf.below (fun _ _ h => h))) (Kd.C_below HCb1.out (hf.below (fun _ _ h => h))) (HF1.out.trans hf)); clear hm hf HCa HCb1 HF1 HM)
  have HSx := Lib.hid (mt_seen HS.out.mx (by omega))
  have HSy := Lib.hid (mt_seen HS.out.mo (by omega))
  cases tw with
  | false =>
    go_wp2_with (go_at_call 12; refine (stepstoneref03_Count.calls _ _ _ _ _ _ _ (by first | exact HS.out.c1 | exact HS.out.c2) (by first | exact hc1 | exact hc2) (count_f _ _ (by omega))).mono ?_; rintro e w2 ⟨rfl, hd⟩; have HS' := Lib.hid (HS.out.step (Fr.of_below hd.below)); clear hd HS; have HS := HS'; clear HS')
    have HT : Hid (S5 w (w2.alloc (.cells #[.pointer (some ⟨w3.heap.size, 0, none⟩), .pointer none, .pointer (some ⟨w4.heap.size, 0, none⟩)] 25)) x y A1 A2 (some ⟨w2.heap.size, 0, none⟩) [(some ⟨w3.heap.size, 0, none⟩, cnt x 1 + cnt x 2, pk x), (none, 0, 0), (some ⟨w4.heap.size, 0, none⟩, cnt y 1 + cnt y 2, pk y)]) := by
      refine Lib.hid (s5_of HS.out (by omega) (by omega) ((Fr.refl _ _).alloc _) (PK.new w2 [some ⟨w3.heap.size, 0, none⟩, none, some ⟨w4.heap.size, 0, none⟩] (by unfold maxLen; simp)) (by simp) ?_)
      rintro v hv
      simp only [List.mem_cons, List.not_mem_nil, or_false] at hv
      rcases hv with rfl | rfl | rfl <;> simp
    clear HS
    obtain ⟨hsu, hwo⟩ := sums3 w3.heap.size w4.heap.size x y _ rfl
    have HSU := Lib.hid hsu
    clear hsu
    rcases hwo with ⟨hlt, hwo⟩ | ⟨hlt, hwo⟩ <;> have HWO := Lib.hid hwo <;> clear hwo
    all_goals (go_wp2_with (first | (go_at_call 17; refine (start_nil _).mono ?_; rintro e w9 ⟨rfl, rfl⟩) | (go_at_call 18; refine (read_nil _).mono ?_; rintro e w9 ⟨rfl, rfl⟩) | (go_at_call 19; refine (call_nil _).mono ?_; rintro e w9 ⟨rfl, rfl⟩) | (go_at_call 20; refine (sum_is (vs := [(some ⟨w3.heap.size, 0, none⟩, cnt x 1 + cnt x 2, pk x), (none, 0, 0), (some ⟨w4.heap.size, 0, none⟩, cnt y 1 + cnt y 2, pk y)]) HSU.out HT.out.cs HT.out.sn (by simp)).mono ?_; rintro e w9 ⟨rfl, hd⟩; have HT' := Lib.hid (HT.out.step hd); clear hd HT; have HT := HT'; clear HT'; have tok1 : True := trivial)))
    all_goals (go_wp2_with (first | (go_at_call 21; have _t := tok1; refine (worst_is (vs := [(some ⟨w3.heap.size, 0, none⟩, cnt x 1 + cnt x 2, pk x), (none, 0, 0), (some ⟨w4.heap.size, 0, none⟩, cnt y 1 + cnt y 2, pk y)]) HWO.out HT.out.cs HT.out.sn (by simp)).mono ?_; rintro e w9 ⟨rfl, hd⟩; have HT' := Lib.hid (HT.out.step hd); clear hd HT; have HT := HT'; clear HT'; clear tok1) | (go_at_call 16; refine (stepstoneref03_Peak.calls _ _ _ _ _ _ (by first | exact HT.out.c1 | exact HT.out.c2) (by first | exact hc1 | exact hc2) (peak_f _ (by omega))).mono ?_; rintro e w9 ⟨rfl, hd⟩; have HT' := Lib.hid (HT.out.step (Fr.of_below hd)); clear hd HT; have HT := HT'; clear HT') | (go_at_call 20; refine (sum_is (vs := []) (q := 0) rfl (PK.nil _) (fun v hv => by cases hv) (by simp)).mono ?_; rintro e w9 ⟨rfl, hd⟩; have HT' := Lib.hid (HT.out.step hd); clear hd HT; have HT := HT'; clear HT') | (go_at_call 21; refine (worst_is (vs := []) (q := 0) rfl (PK.nil _) (fun v hv => by cases hv) (by simp)).mono ?_; rintro e w9 ⟨rfl, hd⟩; have HT' := Lib.hid (HT.out.step hd); clear hd HT; have HT := HT'; clear HT') | (go_at_call 9; refine (taken_nil _).mono ?_; rintro e w9 ⟨rfl, hd⟩; have HT' := Lib.hid (HT.out.step hd); clear hd HT; have HT := HT'; clear HT') | (go_at_call 13; refine (reads_nil _).mono ?_; rintro e w9 ⟨rfl, hd⟩; have HT' := Lib.hid (HT.out.step hd); clear hd HT; have HT := HT'; clear HT') | (go_at_call 14; refine (calls_nil _).mono ?_; rintro e w9 ⟨rfl, hd⟩; have HT' := Lib.hid (HT.out.step hd); clear hd HT; have HT := HT'; clear HT') | (go_at_call 15; refine (peak_nil _).mono ?_; rintro e w9 ⟨rfl, hd⟩; have HT' := Lib.hid (HT.out.step hd); clear hd HT; have HT := HT'; clear HT') | (go_at_call 11; refine (starts_nil _).mono ?_; rintro e w9 ⟨rfl, hd⟩; have HT' := Lib.hid (HT.out.step hd); clear hd HT; have HT := HT'; clear HT')))
    all_goals (go_ret)
    all_goals (exact ⟨rfl, HT.out.nw⟩)
  | true =>
    have HZ : ∀ w6 : World, Hid (PK.R 25 (w6.alloc (.cells #[.pointer (some ⟨w3.heap.size, 0, none⟩), .pointer none, .pointer (some ⟨w4.heap.size, 0, none⟩)] 25)) w6.heap.size (fun _ => True) (.slice (some ⟨w6.heap.size, 0, none⟩) 3 3) [some ⟨w3.heap.size, 0, none⟩, none, some ⟨w4.heap.size, 0, none⟩]) :=
      fun w6 => Lib.hid (PK.new w6 [some ⟨w3.heap.size, 0, none⟩, none, some ⟨w4.heap.size, 0, none⟩] (by unfold maxLen; simp))
    go_wp2_with (first | (go_at_call 12; refine (stepstoneref03_Count.calls _ _ _ _ _ _ _ (by first | exact HS.out.c1 | exact HS.out.c2) (by first | exact hc1 | exact hc2) (count_f _ _ (by omega))).mono ?_; rintro e w2 ⟨rfl, hd⟩; have HS' := Lib.hid (HS.out.step (Fr.of_below hd.below)); clear hd HS; have HS := HS'; clear HS') | (go_at_call 12; refine (stepstoneref03_Count.calls _ _ _ _ _ _ _ (by first | exact HT.out.c1 | exact HT.out.c2) (by first | exact hc1 | exact hc2) (count_f _ _ (by omega))).mono ?_; rintro e w2 ⟨rfl, hd⟩; have HT' := Lib.hid (HT.out.step (Fr.of_below hd.below)); clear hd HT; have HT := HT'; clear HT') | (at_builtin; refine Kd.R_append PK (w0 := w2) w2.heap.size rfl (.tmp 37) (.tmp 39) 32 25 (.pointer none) 8 rfl Try.underlying32 info_pk rfl (by decide) (by omega) _ _ (some ⟨w3.heap.size, 0, none⟩) [.pointer (some ⟨w3.heap.size, 0, none⟩)] (fun _ => True) (fun _ => False) rfl (by rw [World.size_alloc]; rfl) rfl (fun _ hk => hk.elim) (fun _ _ => trivial) (HZ w2).out ((Below.refl _ _).alloc (Nat.le_refl _) _) (by simp) (by simp) ?_; intro v1 w7 ho hb hg hat; obtain ⟨A3, c3, rfl, hc3, hC3⟩ := Kd.R_reads ho; have HT := Lib.hid (s5_of (vs := [(some ⟨w3.heap.size, 0, none⟩, cnt x 1 + cnt x 2, pk x), (none, 0, 0), (some ⟨w4.heap.size, 0, none⟩, cnt y 1 + cnt y 2, pk y), (some ⟨w3.heap.size, 0, none⟩, cnt x 1 + cnt x 2, pk x)]) (HS.out.step (Fr.of_below hb)) (by omega) (by omega) (Fr.refl _ _) ho (by simp) (by rintro v hv; simp only [List.mem_cons, List.not_mem_nil, or_false] at hv; rcases hv with rfl | rfl | rfl | rfl <;> simp)); clear ho hb hg hat hC3 HS))
    obtain ⟨hsu, hwo⟩ := sums4 w3.heap.size w4.heap.size x y _ rfl
    have HSU := Lib.hid hsu
    clear hsu
    rcases hwo with ⟨hlt, hwo⟩ | ⟨hlt, hwo⟩ <;> have HWO := Lib.hid hwo <;> clear hwo
    all_goals (go_wp2_with (first | (go_at_call 17; refine (start_nil _).mono ?_; rintro e w9 ⟨rfl, rfl⟩) | (go_at_call 18; refine (read_nil _).mono ?_; rintro e w9 ⟨rfl, rfl⟩) | (go_at_call 19; refine (call_nil _).mono ?_; rintro e w9 ⟨rfl, rfl⟩) | (go_at_call 20; refine (sum_is (vs := [(some ⟨w3.heap.size, 0, none⟩, cnt x 1 + cnt x 2, pk x), (none, 0, 0), (some ⟨w4.heap.size, 0, none⟩, cnt y 1 + cnt y 2, pk y), (some ⟨w3.heap.size, 0, none⟩, cnt x 1 + cnt x 2, pk x)]) HSU.out HT.out.cs HT.out.sn (by simp)).mono ?_; rintro e w9 ⟨rfl, hd⟩; have HT' := Lib.hid (HT.out.step hd); clear hd HT; have HT := HT'; clear HT'; have tok1 : True := trivial)))
    all_goals (go_wp2_with (first | (go_at_call 21; have _t := tok1; refine (worst_is (vs := [(some ⟨w3.heap.size, 0, none⟩, cnt x 1 + cnt x 2, pk x), (none, 0, 0), (some ⟨w4.heap.size, 0, none⟩, cnt y 1 + cnt y 2, pk y), (some ⟨w3.heap.size, 0, none⟩, cnt x 1 + cnt x 2, pk x)]) HWO.out HT.out.cs HT.out.sn (by simp)).mono ?_; rintro e w9 ⟨rfl, hd⟩; have HT' := Lib.hid (HT.out.step hd); clear hd HT; have HT := HT'; clear HT'; clear tok1) | (go_at_call 16; refine (stepstoneref03_Peak.calls _ _ _ _ _ _ (by first | exact HT.out.c1 | exact HT.out.c2) (by first | exact hc1 | exact hc2) (peak_f _ (by omega))).mono ?_; rintro e w9 ⟨rfl, hd⟩; have HT' := Lib.hid (HT.out.step (Fr.of_below hd)); clear hd HT; have HT := HT'; clear HT') | (go_at_call 20; refine (sum_is (vs := []) (q := 0) rfl (PK.nil _) (fun v hv => by cases hv) (by simp)).mono ?_; rintro e w9 ⟨rfl, hd⟩; have HT' := Lib.hid (HT.out.step hd); clear hd HT; have HT := HT'; clear HT') | (go_at_call 21; refine (worst_is (vs := []) (q := 0) rfl (PK.nil _) (fun v hv => by cases hv) (by simp)).mono ?_; rintro e w9 ⟨rfl, hd⟩; have HT' := Lib.hid (HT.out.step hd); clear hd HT; have HT := HT'; clear HT') | (go_at_call 9; refine (taken_nil _).mono ?_; rintro e w9 ⟨rfl, hd⟩; have HT' := Lib.hid (HT.out.step hd); clear hd HT; have HT := HT'; clear HT') | (go_at_call 13; refine (reads_nil _).mono ?_; rintro e w9 ⟨rfl, hd⟩; have HT' := Lib.hid (HT.out.step hd); clear hd HT; have HT := HT'; clear HT') | (go_at_call 14; refine (calls_nil _).mono ?_; rintro e w9 ⟨rfl, hd⟩; have HT' := Lib.hid (HT.out.step hd); clear hd HT; have HT := HT'; clear HT') | (go_at_call 15; refine (peak_nil _).mono ?_; rintro e w9 ⟨rfl, hd⟩; have HT' := Lib.hid (HT.out.step hd); clear hd HT; have HT := HT'; clear HT') | (go_at_call 11; refine (starts_nil _).mono ?_; rintro e w9 ⟨rfl, hd⟩; have HT' := Lib.hid (HT.out.step hd); clear hd HT; have HT := HT'; clear HT')))
    all_goals (go_ret)
    all_goals (exact ⟨rfl, HT.out.nw⟩)
end Go.Proofs.Ytkglhinlnkdajaa
