/-
  BitmapMakes: of any numbers the bitmap has each once.
-/
import Derived.Test.YtiekoidlibhoeaaDoorBmLay
import Derived.Test.YtiekoidlibhoeaaDoorBmAll
namespace Go.Proofs.YtiekoidlibhoeaaDoor
open Go.RowKit Go.Shelf Go.Proofs.YtiekoidlibhoeaaDoorW.PrintWords Go.Proofs.YtiekoidlibhoeaaDoorW.PrintMore
set_option linter.unusedVariables false
set_option linter.unusedSimpArgs false

theorem take_all16 (B : Nat) : (listB 1024 B).take 70000 = listB 1024 B := List.take_of_length_le (by have := listB_len 1024 B; omega)
theorem len_all16 (B : Nat) : (listB 1024 B).length = segN B 0 65536 := by rw [len_listB, seg_all B 65536 rfl]
theorem len_bd16 (B : Nat) : (listB 1024 B).length ≤ 65536 := by rw [len_all16]; exact seg_le B 0 65536

set_option maxRecDepth 100000 in
set_option maxHeartbeats 4000000 in
theorem makes_calls (a : Option Addr) (cap : Nat) (l : List Int) (w : World) (hr : Kd.C (Kd.int .u16) w a l.length l) (hb : ∀ x, x ∈ l → 0 ≤ x ∧ x ≤ 65535) (hn : l.length ≤ 140737488351232) (hT : Tb w) :
    Calls Tryd.prog 3 #[.slice a l.length cap] w fun e w' => e = .returned (.bool true) ∧ Nw w w' := by
  have HT := Lib.hid hT
  have HFw := Lib.hid (fun W (h : Nw w W) => few_calls a cap l 300 W (Kd.C_below hr (h.below (fun _ _ h => h))) hn (by omega))
  have hb2 : ∀ x, x ∈ l.take 300 → 0 ≤ x ∧ x ≤ 65535 := fun x hx => hb x (List.mem_of_mem_take hx)
  have HB2 := Lib.hid hb2
  have hl3 : (l.take 300).length ≤ 300 := by simp; omega
  obtain ⟨m, hm⟩ : ∃ m, m = l.take 300 := ⟨_, rfl⟩
  rw [← hm] at HFw HB2 hl3
  obtain ⟨B, hB⟩ : ∃ B, B = ofL m := ⟨_, rfl⟩
  have HOf := Lib.hid (fun (A : Option Addr) (c : Nat) W (hr : Kd.C (Kd.int .u16) W A m.length m) => bm_of_list A c m W hr HB2.out (by omega))
  have HSo := Lib.hid (fun (A : Option Addr) (c : Nat) W (hr : Kd.C (Kd.int .u16) W A m.length m) => set_of A c m W hr HB2.out (by omega))
  rw [← hB] at HOf HSo
  have HAl := Lib.hid (fun b p q W (h : BM W b p q B) (hT : Tb W) => bmall_calls (some ⟨b, 0, none⟩) p q B 70000 W (.inl ⟨b, rfl, h⟩) (by omega) (by omega) hT)
  rw [take_all16] at HAl
  have HLn := Lib.hid (fun b p q W (h : BM W b p q B) => bm_len b p q B W h)
  rw [← len_all16] at HLn
  have hL := len_bd16 B
  have HLi := Lib.hid (fun s c W (h : BS W s B) => set_list s c B W h)
  obtain ⟨L, hLL⟩ : ∃ L, L = listB 1024 B := ⟨_, rfl⟩
  rw [← hLL] at HAl HLn hL HLi
  have HSm := Lib.hid (fun (A D : Option Addr) (c d : Nat) W (h1 : Kd.C (Kd.int .u16) W A L.length L) (h2 : Kd.C (Kd.int .u16) W D L.length L) => same16_calls A D c d L L W h1 h2 (by omega))
  rw [decide_eq_true (rfl : L = L)] at HSm
  clear hm hB hb hr hb2 hLL hT
  go_enter Tryd.func3, Tryd.ntmps3
  go_wp2_with (first
    | (go_at_call 8; refine (bmawake_calls _ HT.out).mono ?_; rintro e w1 ⟨rfl, hN⟩; have HN1 := Lib.hid hN; clear hN)
    | (go_at_call 9; refine (HFw.out _ HN1.out).mono ?_; rintro e w2 ⟨v2, rfl, hR, hBl⟩; obtain ⟨A2, c2, rfl, _, hC⟩ := Kd.R_reads hR; have HC2 := Lib.hid hC; have HN2 := Lib.hid (HN1.out.trans (Fr.of_below hBl)); clear hR hBl hC)
    | (go_at_call 10; refine (HOf.out A2 c2 _ HC2.out).mono ?_; rintro e w3 ⟨b, p, q, rfl, hbq, hM, hN⟩; have HM3 := Lib.hid hM; have HN3 := Lib.hid (HN2.out.trans hN); have HC3 := Lib.hid (Kd.C_below HC2.out (hN.below (fun _ _ h => h))); clear hbq hM hN)
    | (go_at_call 12; refine (HSo.out A2 c2 _ HC3.out).mono ?_; rintro e w4 ⟨s, c4, rfl, hs, hS, hN⟩; have HS4 := Lib.hid hS; have HN4 := Lib.hid (HN3.out.trans hN); have HM4 := Lib.hid (HM3.out.nw hN); clear hs hS hN)
    | (go_at_call 11; refine (HLi.out s c4 _ HS4.out).mono ?_; rintro e w5 ⟨v5, rfl, hR, hBl⟩; obtain ⟨A5, c5, rfl, _, hC⟩ := Kd.R_reads hR; have HC5 := Lib.hid hC; have HN5 := Lib.hid (HN4.out.trans (Fr.of_below hBl)); have HM5 := Lib.hid (HM4.out.nw (Fr.of_below hBl)); clear hR hBl hC)
    | (go_at_call 14; refine (HAl.out b p q _ HM5.out (HT.out.step HN5.out)).mono ?_; rintro e w6 ⟨A6, c6, rfl, hC, hN⟩; have HC6 := Lib.hid hC; have HC56 := Lib.hid (Kd.C_below HC5.out (hN.below (fun _ _ h => h))); have HN6 := Lib.hid (HN5.out.trans hN); have HM6 := Lib.hid (HM5.out.nw hN); clear hC hN)
    | (go_at_call 13; refine (HSm.out A6 A5 c6 c5 _ HC6.out HC56.out).mono ?_; rintro e w7 ⟨rfl, hN⟩; have HN7 := Lib.hid (HN6.out.trans hN); have HM7 := Lib.hid (HM6.out.nw hN); clear hN)
    | (go_at_call 15; refine (HLn.out b p q _ HM7.out).mono ?_; rintro e w8 ⟨rfl, rfl⟩))
  go_ret
  exact ⟨ret_bool (by simp), HN7.out⟩

end Go.Proofs.YtiekoidlibhoeaaDoor
