/-
  The walk of the law CountSplits.
-/
import Derived.Test.YtkglhinlnkdajaaCountLaw
namespace Go.Proofs.Ytkglhinlnkdajaa
open Go.RowKit Go.Proofs.YtkglhinlnkdajaaW.PrintWords Go.Proofs.YtkglhinlnkdajaaW.PrintMore Go.Proofs.Ytkglhinlnkdajaa.PCountPlays
attribute [local go_sem] max2_int min2_int max_two min_two
set_option linter.unusedVariables false
set_option linter.unusedSimpArgs false

/-- A meter after a script. -/
abbrev MtOf (W : World) (b : Nat) (l : List Int) : Prop := Mt W b (cnt l 1) (cnt l 2) (tk l) (pk l) (cnt l 0)

/-- Two meters and the two scripts. -/
structure S2 (W0 W : World) (bx bo : Nat) (x y : List Int) (A1 A2 : Option Addr) : Prop where
  mx : MtOf W bx x
  mo : MtOf W bo y
  c1 : Kd.C (Kd.int .u8) W A1 x.length x
  c2 : Kd.C (Kd.int .u8) W A2 y.length y
  nw : Nw W0 W
theorem S2.step {W0 W W1 : World} {bx bo : Nat} {x y : List Int} {A1 A2 : Option Addr} (h : S2 W0 W bx bo x y A1 A2) (hf : Nw W W1) : S2 W0 W1 bx bo x y A1 A2 :=
  ⟨h.mx.kept hf (fun h => h), h.mo.kept hf (fun h => h), Kd.C_below h.c1 (hf.below (fun _ _ h => h)), Kd.C_below h.c2 (hf.below (fun _ _ h => h)), h.nw.trans hf⟩
/-- Three meters. -/
structure S3 (W0 W : World) (bx bo bz : Nat) (x y z : List Int) (A2 : Option Addr) : Prop where
  mx : MtOf W bx x
  mo : MtOf W bo y
  mz : MtOf W bz z
  c2 : Kd.C (Kd.int .u8) W A2 y.length y
  nw : Nw W0 W
theorem S3.step {W0 W W1 : World} {bx bo bz : Nat} {x y z : List Int} {A2 : Option Addr} (h : S3 W0 W bx bo bz x y z A2) (hf : Nw W W1) : S3 W0 W1 bx bo bz x y z A2 :=
  ⟨h.mx.kept hf (fun h => h), h.mo.kept hf (fun h => h), h.mz.kept hf (fun h => h), Kd.C_below h.c2 (hf.below (fun _ _ h => h)), h.nw.trans hf⟩

theorem info_u8 : (Try.prog.info? 5).map (fun i => (i.zero, i.size, i.bytes)) = some (some (.int .u8 0), 1, 1) := by kernel_rfl

/-- What is claimed of two scripts, one behind the other. -/
theorem splits_eq (x y : List Int) (k : Int) : cnt (x ++ y) k = cnt x k + cnt y k := by
  suffices h : ∀ y : List Int, cnt (x ++ y.reverse) k = cnt x k + cnt y.reverse k by
    have := h y.reverse; simpa using this
  intro y
  induction y with
  | nil => simp [cnt]
  | cons a y ih =>
    rw [List.reverse_cons, ← List.append_assoc, cnt_snoc, cnt_snoc, ih]; simp only [cntStep]; split <;> omega
theorem splits_tk (x y : List Int) : (cnt y 0 = 0 → tk (x ++ y) = tk x + tk y) ∧ (tk (x ++ y) ≤ tk x + tk y) ∧ (0 < cnt y 0 → tk (x ++ y) = tk y) := by
  suffices h : ∀ y : List Int, (cnt y.reverse 0 = 0 → tk (x ++ y.reverse) = tk x + tk y.reverse) ∧ (tk (x ++ y.reverse) ≤ tk x + tk y.reverse) ∧ (0 < cnt y.reverse 0 → tk (x ++ y.reverse) = tk y.reverse) by
    have := h y.reverse; simpa using this
  intro y
  induction y with
  | nil => simp [tk, cnt]
  | cons a y ih =>
    have b0 := cnt_bd y.reverse 0
    have bx := tk_bd x
    rw [List.reverse_cons, ← List.append_assoc, cnt_snoc, tk_snoc, tk_snoc]; simp only [cntStep, tkStep]
    split
    · exact ⟨fun h => by omega, by omega, fun _ => rfl⟩
    · obtain ⟨i1, i2, i3⟩ := ih
      refine ⟨fun h => by have := i1 h; omega, by omega, fun h => by have := i3 h; omega⟩
theorem splits_pk (x y : List Int) : pk x ≤ pk (x ++ y) ∧ pk y ≤ pk (x ++ y) ∧ pk (x ++ y) ≤ pk x + pk y := by
  suffices h : ∀ y : List Int, pk x ≤ pk (x ++ y.reverse) ∧ pk y.reverse ≤ pk (x ++ y.reverse) ∧ pk (x ++ y.reverse) ≤ pk x + pk y.reverse by
    have := h y.reverse; simpa using this
  intro y
  induction y with
  | nil => have := pk_bd x; simp [pk_nil]; omega
  | cons a y ih =>
    obtain ⟨i1, i2, i3⟩ := ih
    have t := splits_tk x (y.reverse ++ [a])
    have c := cnt_bd (y.reverse ++ [a]) 0
    have bx := tk_bd x
    have px := tk_le_pk x
    rw [List.reverse_cons, pk_snoc, ← List.append_assoc, pk_snoc]
    rw [List.append_assoc]
    obtain ⟨t1, t2, t3⟩ := t
    rcases Int.lt_or_eq_of_le c.1 with h | h
    · have := t3 h; omega
    · have := t1 h.symm; omega

/-- The law's own word. -/
theorem splits_law (x y : List Int) (q : Int) (hq : q = if cnt y 0 = 0 then max (max (pk x) (pk y)) (tk x + tk y) else max (pk x) (pk y)) :
    cnt (x ++ y) 1 = cnt x 1 + cnt y 1 ∧ cnt (x ++ y) 2 = cnt x 2 + cnt y 2 ∧ cnt (x ++ y) 0 = cnt x 0 + cnt y 0 ∧ q ≤ pk (x ++ y) ∧ pk (x ++ y) ≤ pk x + pk y := by
  have h := splits_pk x y
  have t := splits_tk x y
  have p := tk_le_pk (x ++ y)
  refine ⟨splits_eq .., splits_eq .., splits_eq .., ?_, h.2.2⟩
  subst hq
  split
  · rename_i h0
    have := t.1 h0; omega
  · omega


set_option maxHeartbeats 4000000 in
theorem splits_calls (A B : Option Addr) (c d : Nat) (l m : List Int) (w : World) (hr : Kd.C (Kd.int .u8) w A l.length l) (hc : l.length ≤ c) (hb : ∀ a, a ∈ l → 0 ≤ a ∧ a ≤ 255) (hn : l.length ≤ 140737488351232)
    (hr2 : Kd.C (Kd.int .u8) w B m.length m) (hd : m.length ≤ d) (hb2 : ∀ a, a ∈ m → 0 ≤ a ∧ a ≤ 255) (hn2 : m.length ≤ 140737488351232) :
    Calls Try.prog 4 #[.slice A l.length c, .slice B m.length d] w fun e w' => e = .returned (.bool true) ∧ Nw w w' := by
  have hby := bytes_f 100 l hn
  obtain ⟨x, hxe⟩ : ∃ x, x = l.take 100 := ⟨_, rfl⟩
  rw [← hxe] at hby
  have HB1 := Lib.hid (fun a ha => hb a (List.mem_of_mem_take (by rw [← hxe]; exact ha)) : ∀ a, a ∈ x → 0 ≤ a ∧ a ≤ 255)
  have hx2 : x.length ≤ 100 := by rw [hxe]; exact List.length_take_le _ _
  have hby2 := bytes_f 100 m hn2
  obtain ⟨y, hye⟩ : ∃ y, y = m.take 100 := ⟨_, rfl⟩
  rw [← hye] at hby2
  have HB2 := Lib.hid (fun a ha => hb2 a (List.mem_of_mem_take (by rw [← hye]; exact ha)) : ∀ a, a ∈ y → 0 ≤ a ∧ a ≤ 255)
  have hy2 : y.length ≤ 100 := by rw [hye]; exact List.length_take_le _ _
  have hby3 := bytes_f 100 x (by omega)
  rw [List.take_of_length_le hx2] at hby3
  have HBY := Lib.hid hby
  have HBY2 := Lib.hid hby2
  have HBY3 := Lib.hid hby3
  have HR := Lib.hid hr
  have HC0 := Lib.hid hc
  have HR2 := Lib.hid hr2
  have HC2 := Lib.hid hd
  have HB3 := Lib.hid (fun a ha => (List.mem_append.1 ha).elim (HB1.out a) (HB2.out a) : ∀ a, a ∈ x ++ y → 0 ≤ a ∧ a ≤ 255)
  obtain ⟨z, hz⟩ : ∃ z, z = x ++ y := ⟨_, rfl⟩
  have hz2 : z.length = x.length + y.length := by rw [hz]; simp
  have hz3 : z.length ≤ 200 := by omega
  rw [← hz] at HB3
  have HZ := Lib.hid hz
  clear hby hby2 hby3 hxe hye hb hb2 hr hc hr2 hd hz hz2
  have px := pk_bd x
  have py := pk_bd y
  have tx := tk_bd x
  have ty := tk_bd y
  have rx := cnt_bd x 1
  have ry := cnt_bd y 1
  have qx := cnt_bd x 2
  have qy := cnt_bd y 2
  have sx := cnt_bd x 0
  have sy := cnt_bd y 0
  go_enter Try.func4, Try.ntmps4
  go_wp2_with (go_at_call 6; refine (awake_calls _).mono ?_; rintro e w1 ⟨rfl, hf⟩; have HF := Lib.hid hf; have HRa := Lib.hid (Kd.C_below HR.out (hf.below (fun _ _ h => h))); have HR2a := Lib.hid (Kd.C_below HR2.out (hf.below (fun _ _ h => h))); clear hf HR HR2)
  go_wp2_with (go_at_call 7; refine (stepstoneref01_Bytes.calls _ _ _ _ _ _ _ HRa.out HC0.out HBY.out).mono ?_; rintro e w2 ⟨v0, rfl, ho, hf⟩; obtain ⟨A1, c1, rfl, hc1, hC1⟩ := Kd.R_reads ho; have HCa := Lib.hid hC1; have HF1 := Lib.hid (HF.out.trans (Fr.of_below hf)); have HR2b := Lib.hid (Kd.C_below HR2a.out hf); clear hC1 ho hf HF HRa HR2a)
  go_wp2_with (go_at_call 7; refine (stepstoneref01_Bytes.calls _ _ _ _ _ _ _ HR2b.out HC2.out HBY2.out).mono ?_; rintro e w3 ⟨v1, rfl, ho, hf⟩; obtain ⟨A2, c2, rfl, hc2, hC1⟩ := Kd.R_reads ho; have HCb := Lib.hid hC1; have HF := Lib.hid (HF1.out.trans (Fr.of_below hf)); have HCa1 := Lib.hid (Kd.C_below HCa.out hf); clear hC1 ho hf HF1 HR2b HCa)
  go_wp2_with (go_at_call 8; refine (play_calls _ _ _ _ HCa1.out hc1 HB1.out (by omega)).mono ?_; rintro e w4 ⟨rfl, hm, hf⟩; have HM := Lib.hid hm; have HCa := Lib.hid (Kd.C_below HCa1.out (hf.below (fun _ _ h => h))); have HCb1 := Lib.hid (Kd.C_below HCb.out (hf.below (fun _ _ h => h))); have HF1 := Lib.hid (HF.out.trans hf); clear hm hf HCa1 HCb HF)
  go_wp2_with (go_at_call 8; refine (play_calls _ _ _ _ HCb1.out hc2 HB2.out (by omega)).mono ?_; rintro e w5 ⟨rfl, hm, hf⟩; have HS := Lib.hid (S2.mk (HM.out.kept hf (fun h => h)) hm (Kd.C_below HCa.out (hf.below (fun _ _ h => h))) (Kd.C_below HCb1.out (hf.below (fun _ _ h => h))) (HF1.out.trans hf)); clear hm hf HCa HCb1 HF1 HM)
  go_wp2_with (first | (go_at_call 7; refine (stepstoneref01_Bytes.calls _ _ _ _ _ _ _ HS.out.c1 hc1 HBY3.out).mono ?_; rintro e w6 ⟨v2, rfl, ho, hf⟩; have HO := Lib.hid ho; have HF := Lib.hid hf; clear ho hf) | (at_builtin; refine Kd.R_append_row (Value.int .u8) 0 (h1 := fun _ => rfl) (w0 := w5) w5.heap.size rfl (.tmp 20) (.tmp 21) 22 5 (.int .u8 0) 1 rfl Try.underlying22 info_u8 rfl (by decide) _ x y A2 y.length c2 (fun _ => True) rfl rfl (fun _ _ => trivial) HO.out (Kd.C_below HS.out.c2 HF.out) HF.out HF.out.size (by omega) ?_; intro v1 w7 ho hb hg hat; rw [← HZ.out] at ho; obtain ⟨A3, c3, rfl, hc3, hC3⟩ := Kd.R_reads ho; have HS' := Lib.hid (HS.out.step (Fr.of_below hb)); have HC3 := Lib.hid hC3; clear ho hb hg hat hC3 HO HF HS))
  go_wp2_with (go_at_call 8; refine (play_calls _ _ _ _ HC3.out hc3 HB3.out (by omega)).mono ?_; rintro e w4 ⟨rfl, hm, hf⟩; have HS := Lib.hid (S3.mk (HS'.out.mx.kept hf (fun h => h)) (HS'.out.mo.kept hf (fun h => h)) hm (Kd.C_below HS'.out.c2 (hf.below (fun _ _ h => h))) (HS'.out.nw.trans hf)); clear hm hf HC3 HS')
  have law := splits_law x y
  rw [← HZ.out] at law
  have LAW := Lib.hid law
  clear law
  by_cases h0 : cnt y 0 = 0
  · have t0 : (cnt y 0 == 0) = true := by simp [h0]
    have HL := Lib.hid (LAW.out _ rfl)
    have H0 := Lib.hid h0
    clear h0
    go_wp2_with (first | (go_at_call 15; refine (peak_calls _ _ _ _ _ _ _ (by first | exact HS.out.mx | exact HS.out.mo | exact HS.out.mz)).mono ?_; rintro e w2 ⟨rfl, hf⟩; have HS' := Lib.hid (HS.out.step hf); clear hf HS; have HS := HS'; clear HS') | (go_at_call 9; refine (taken_calls _ _ _ _ _ _ _ (by first | exact HS.out.mx | exact HS.out.mo | exact HS.out.mz)).mono ?_; rintro e w2 ⟨rfl, hf⟩; have HS' := Lib.hid (HS.out.step hf); clear hf HS; have HS := HS'; clear HS') | (go_at_call 13; refine (reads_calls _ _ _ _ _ _ _ (by first | exact HS.out.mx | exact HS.out.mo | exact HS.out.mz)).mono ?_; rintro e w2 ⟨rfl, hf⟩; have HS' := Lib.hid (HS.out.step hf); clear hf HS; have HS := HS'; clear HS') | (go_at_call 14; refine (calls_calls _ _ _ _ _ _ _ (by first | exact HS.out.mx | exact HS.out.mo | exact HS.out.mz)).mono ?_; rintro e w2 ⟨rfl, hf⟩; have HS' := Lib.hid (HS.out.step hf); clear hf HS; have HS := HS'; clear HS') | (go_at_call 11; refine (starts_calls _ _ _ _ _ _ _ (by first | exact HS.out.mx | exact HS.out.mo | exact HS.out.mz)).mono ?_; rintro e w2 ⟨rfl, hf⟩; have HS' := Lib.hid (HS.out.step hf); clear hf HS; have HS := HS'; clear HS') | (go_at_call 12; refine (stepstoneref03_Count.calls _ _ _ _ 0 _ _ HS.out.c2 hc2 (count_f 0 _ (by omega))).mono ?_; rintro e w2 ⟨rfl, hd⟩; have HS' := Lib.hid (HS.out.step (Fr.of_below hd.below)); clear hd HS; have HS := HS'; clear HS'))
    all_goals (go_ret; refine ⟨?_, HS.out.nw⟩; obtain ⟨l1, l2, l3, l4, l5⟩ := HL.out; rw [if_pos H0.out] at l4; first | rfl | (exfalso; omega) | (simp; omega))
  · have t0 : (cnt y 0 == 0) = false := by simp [h0]
    have HL := Lib.hid (LAW.out _ rfl)
    have H0 := Lib.hid h0
    clear h0
    go_wp2_with (first | (go_at_call 15; refine (peak_calls _ _ _ _ _ _ _ (by first | exact HS.out.mx | exact HS.out.mo | exact HS.out.mz)).mono ?_; rintro e w2 ⟨rfl, hf⟩; have HS' := Lib.hid (HS.out.step hf); clear hf HS; have HS := HS'; clear HS') | (go_at_call 9; refine (taken_calls _ _ _ _ _ _ _ (by first | exact HS.out.mx | exact HS.out.mo | exact HS.out.mz)).mono ?_; rintro e w2 ⟨rfl, hf⟩; have HS' := Lib.hid (HS.out.step hf); clear hf HS; have HS := HS'; clear HS') | (go_at_call 13; refine (reads_calls _ _ _ _ _ _ _ (by first | exact HS.out.mx | exact HS.out.mo | exact HS.out.mz)).mono ?_; rintro e w2 ⟨rfl, hf⟩; have HS' := Lib.hid (HS.out.step hf); clear hf HS; have HS := HS'; clear HS') | (go_at_call 14; refine (calls_calls _ _ _ _ _ _ _ (by first | exact HS.out.mx | exact HS.out.mo | exact HS.out.mz)).mono ?_; rintro e w2 ⟨rfl, hf⟩; have HS' := Lib.hid (HS.out.step hf); clear hf HS; have HS := HS'; clear HS') | (go_at_call 11; refine (starts_calls _ _ _ _ _ _ _ (by first | exact HS.out.mx | exact HS.out.mo | exact HS.out.mz)).mono ?_; rintro e w2 ⟨rfl, hf⟩; have HS' := Lib.hid (HS.out.step hf); clear hf HS; have HS := HS'; clear HS') | (go_at_call 12; refine (stepstoneref03_Count.calls _ _ _ _ 0 _ _ HS.out.c2 hc2 (count_f 0 _ (by omega))).mono ?_; rintro e w2 ⟨rfl, hd⟩; have HS' := Lib.hid (HS.out.step (Fr.of_below hd.below)); clear hd HS; have HS := HS'; clear HS'))
    all_goals (go_ret; refine ⟨?_, HS.out.nw⟩; obtain ⟨l1, l2, l3, l4, l5⟩ := HL.out; rw [if_neg H0.out] at l4; first | rfl | (exfalso; omega) | (simp; omega))
end Go.Proofs.Ytkglhinlnkdajaa
