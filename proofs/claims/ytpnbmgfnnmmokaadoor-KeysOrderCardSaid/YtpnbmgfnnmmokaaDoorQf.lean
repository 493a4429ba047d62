/-
  KeysOrder: its walk.
-/
import Derived.Test.YtpnbmgfnnmmokaaDoorQe
set_option linter.unusedVariables false
namespace Go.Proofs.YtpnbmgfnnmmokaaDoor
open Go.RowKit

theorem sgn_zero {c : Int} (h : c = -1 ∨ c = 0 ∨ c = 1) : (c == 0) = decide (c = 0) := by
  rcases h with rfl | rfl | rfl <;> rfl
theorem cells_take {w : World} {A : Option Addr} {l : List Int} (h : Cells w w.heap.size A (U8 l)) (n : Nat) : Cells w w.heap.size A (U8 (l.take n)) := h.takeU n

set_option maxRecDepth 8000 in
set_option maxHeartbeats 16000000 in
theorem korder_walk (v v2 : LV) (w : World) (hT : Tabs w) (hv : v.At w) (hv2 : v2.At w) : Calls Tryd.prog 5 #[v.val, v2.val] w fun e w' => e = .returned (.bool true) ∧ Below w.heap.size w w' := by
  obtain ⟨k, n, s, An, ns, cn, Ai, is, ci⟩ := v
  obtain ⟨k2, n2, s2, An2, ns2, cn2, Ai2, is2, ci2⟩ := v2
  obtain ⟨W, hW⟩ : ∃ W, W = (w.alloc (.cells (valBlk k n s An ns cn Ai is ci) 25)).alloc (.cells (valBlk k2 n2 s2 An2 ns2 cn2 Ai2 is2 ci2) 25) := ⟨_, rfl⟩
  have hB0 : Below w.heap.size w W := by rw [hW]; exact ((Below.refl _ _).alloc (Nat.le_refl _) _).alloc (by simp) _
  have hF0 : Blk W w.heap.size 25 (valBlk k n s An ns cn Ai is ci) := by rw [hW]; exact (Blk.new w _ _).alloc _
  have hG0 : Blk W (w.heap.size + 1) 25 (valBlk k2 n2 s2 An2 ns2 cn2 Ai2 is2 ci2) := by rw [hW]; exact Blk.second w _ _ _
  have hvW := hv.below hB0 _
  have hvW2 := hv2.below hB0 _
  have hTW := hT.below hB0
  have hN1 := hvW.nums
  have hN2 := hvW2.nums
  have HA : Hid (∀ w1, Below W.heap.size W w1 → Calls Tryd.prog 9 #[] w1 fun e w' => e = .returned (.bool true) ∧ Below w1.heap.size w1 w') := Lib.hid fun w1 hb => awake04_any w1 (hTW.below hb)
  have HFEW : Hid (∀ w1, Below W.heap.size W w1 → Calls Tryd.prog 10 #[.slice (some ⟨w1.heap.size, 0, none⟩) 2 2] (w1.alloc (.cells #[.int .i64 k, .int .i64 n, .string s, .slice An ns.length cn, .slice Ai is.length ci, .int .i64 k2, .int .i64 n2, .string s2, .slice An2 ns2.length cn2, .slice Ai2 is2.length ci2] 25)) fun e w' => BoolRes e ∧ Below w1.heap.size w1 w') := Lib.hid fun w1 hb =>
    (few04_any _ _ _ _ (RowAt.two (hvW.below hb _) (hvW2.below hb _))).mono fun e w' ⟨h1, h2⟩ => ⟨h1, ((Below.refl w1.heap.size w1).alloc (Nat.le_refl _) _).trans (h2.mono (by simp))⟩
  have HF1 : Hid (∀ w1, Below W.heap.size W w1 → Calls Tryd.prog 15 #[.agg #[.int .i64 k, .int .i64 n, .string s, .slice An ns.length cn, .slice Ai is.length ci]] w1 fun e w' => BoolIs (FormedP (LV.mk k n s An ns cn Ai is ci).j 6) e ∧ Below w1.heap.size w1 w') := Lib.hid fun w1 hb => jformed_any (LV.mk k n s An ns cn Ai is ci) w1 (hvW.below hb _) (hTW.below hb)
  have HF2 : Hid (∀ w1, Below W.heap.size W w1 → Calls Tryd.prog 15 #[.agg #[.int .i64 k2, .int .i64 n2, .string s2, .slice An2 ns2.length cn2, .slice Ai2 is2.length ci2]] w1 fun e w' => BoolIs (FormedP (LV.mk k2 n2 s2 An2 ns2 cn2 Ai2 is2 ci2).j 6) e ∧ Below w1.heap.size w1 w') := Lib.hid fun w1 hb => jformed_any (LV.mk k2 n2 s2 An2 ns2 cn2 Ai2 is2 ci2) w1 (hvW2.below hb _) (hTW.below hb)
  have HK1 : Hid (∀ w1, Below W.heap.size W w1 → Calls Tryd.prog 11 #[.agg #[.int .i64 k, .int .i64 n, .string s, .slice An ns.length cn, .slice Ai is.length ci]] w1 fun e w' => KeyRes (keyX (LV.mk k n s An ns cn Ai is ci).j) (keyE (LV.mk k n s An ns cn Ai is ci).j) w1.heap.size e w' ∧ Below w1.heap.size w1 w') := Lib.hid fun w1 hb => key_any (LV.mk k n s An ns cn Ai is ci) w1 (hTW.below hb) (hvW.below hb _)
  have HK2 : Hid (∀ w1, Below W.heap.size W w1 → Calls Tryd.prog 11 #[.agg #[.int .i64 k2, .int .i64 n2, .string s2, .slice An2 ns2.length cn2, .slice Ai2 is2.length ci2]] w1 fun e w' => KeyRes (keyX (LV.mk k2 n2 s2 An2 ns2 cn2 Ai2 is2 ci2).j) (keyE (LV.mk k2 n2 s2 An2 ns2 cn2 Ai2 is2 ci2).j) w1.heap.size e w' ∧ Below w1.heap.size w1 w') := Lib.hid fun w1 hb => key_any (LV.mk k2 n2 s2 An2 ns2 cn2 Ai2 is2 ci2) w1 (hTW.below hb) (hvW2.below hb _)
  have HCM : Hid (∀ w1, Below W.heap.size W w1 → Calls Tryd.prog 16 #[.agg #[.int .i64 k, .int .i64 n, .string s, .slice An ns.length cn, .slice Ai is.length ci], .agg #[.int .i64 k2, .int .i64 n2, .string s2, .slice An2 ns2.length cn2, .slice Ai2 is2.length ci2]] w1 fun e w' => e = .returned (.int .i64 (cmpX (LV.mk k n s An ns cn Ai is ci).j (LV.mk k2 n2 s2 An2 ns2 cn2 Ai2 is2 ci2).j)) ∧ Below w1.heap.size w1 w') := Lib.hid fun w1 hb => oCompare_any _ _ w1 (hTW.below hb) (hvW.below hb _) (hvW2.below hb _)
  have HP1 : Hid (FormedP (LV.mk k n s An ns cn Ai is ci).j 6 → keyX (LV.mk k n s An ns cn Ai is ci).j = keyJ (LV.mk k n s An ns cn Ai is ci).j ∧ keyE (LV.mk k n s An ns cn Ai is ci).j = 0) := Lib.hid keyX_pos
  have HP2 : Hid (FormedP (LV.mk k2 n2 s2 An2 ns2 cn2 Ai2 is2 ci2).j 6 → keyX (LV.mk k2 n2 s2 An2 ns2 cn2 Ai2 is2 ci2).j = keyJ (LV.mk k2 n2 s2 An2 ns2 cn2 Ai2 is2 ci2).j ∧ keyE (LV.mk k2 n2 s2 An2 ns2 cn2 Ai2 is2 ci2).j = 0) := Lib.hid keyX_pos
  have HORD : Hid (FormedP (LV.mk k n s An ns cn Ai is ci).j 6 → FormedP (LV.mk k2 n2 s2 An2 ns2 cn2 Ai2 is2 ci2).j 6 → cmpX (LV.mk k n s An ns cn Ai is ci).j (LV.mk k2 n2 s2 An2 ns2 cn2 Ai2 is2 ci2).j = cmpJ (LV.mk k n s An ns cn Ai is ci).j (LV.mk k2 n2 s2 An2 ns2 cn2 Ai2 is2 ci2).j ∧ (lessB (keyJ (LV.mk k n s An ns cn Ai is ci).j) (keyJ (LV.mk k2 n2 s2 An2 ns2 cn2 Ai2 is2 ci2).j) = decide (cmpJ (LV.mk k n s An ns cn Ai is ci).j (LV.mk k2 n2 s2 An2 ns2 cn2 Ai2 is2 ci2).j < 0) ∧ (keyJ (LV.mk k n s An ns cn Ai is ci).j = keyJ (LV.mk k2 n2 s2 An2 ns2 cn2 Ai2 is2 ci2).j ↔ cmpJ (LV.mk k n s An ns cn Ai is ci).j (LV.mk k2 n2 s2 An2 ns2 cn2 Ai2 is2 ci2).j = 0) ∧ (cmpJ (LV.mk k n s An ns cn Ai is ci).j (LV.mk k2 n2 s2 An2 ns2 cn2 Ai2 is2 ci2).j ≠ 0 → (keyJ (LV.mk k n s An ns cn Ai is ci).j).take (min (keyJ (LV.mk k n s An ns cn Ai is ci).j).length (keyJ (LV.mk k2 n2 s2 An2 ns2 cn2 Ai2 is2 ci2).j).length) ≠ (keyJ (LV.mk k2 n2 s2 An2 ns2 cn2 Ai2 is2 ci2).j).take (min (keyJ (LV.mk k n s An ns cn Ai is ci).j).length (keyJ (LV.mk k2 n2 s2 An2 ns2 cn2 Ai2 is2 ci2).j).length))) ∧ (keyJ (LV.mk k n s An ns cn Ai is ci).j).length ≤ 9000000000000 ∧ (keyJ (LV.mk k2 n2 s2 An2 ns2 cn2 Ai2 is2 ci2).j).length ≤ 9000000000000 ∧ Oct (keyJ (LV.mk k n s An ns cn Ai is ci).j) ∧ Oct (keyJ (LV.mk k2 n2 s2 An2 ns2 cn2 Ai2 is2 ci2).j) ∧ (cmpJ (LV.mk k n s An ns cn Ai is ci).j (LV.mk k2 n2 s2 An2 ns2 cn2 Ai2 is2 ci2).j = -1 ∨ cmpJ (LV.mk k n s An ns cn Ai is ci).j (LV.mk k2 n2 s2 An2 ns2 cn2 Ai2 is2 ci2).j = 0 ∨ cmpJ (LV.mk k n s An ns cn Ai is ci).j (LV.mk k2 n2 s2 An2 ns2 cn2 Ai2 is2 ci2).j = 1)) := Lib.hid fun h1 h2 => ⟨cmpX_leaf h1 h2, key_order h1 h2 hN1 hN2, key_fits h1, key_fits h2, keyJ_oct _ _ h1, keyJ_oct _ _ h2, cmpJ_range _ _⟩
  generalize keyX (LV.mk k n s An ns cn Ai is ci).j = XA at *
  generalize keyX (LV.mk k2 n2 s2 An2 ns2 cn2 Ai2 is2 ci2).j = XB at *
  generalize keyE (LV.mk k n s An ns cn Ai is ci).j = EA at *
  generalize keyE (LV.mk k2 n2 s2 An2 ns2 cn2 Ai2 is2 ci2).j = EB at *
  generalize keyJ (LV.mk k n s An ns cn Ai is ci).j = KA at *
  generalize keyJ (LV.mk k2 n2 s2 An2 ns2 cn2 Ai2 is2 ci2).j = KB at *
  generalize FormedP (LV.mk k n s An ns cn Ai is ci).j 6 = FA at *
  generalize FormedP (LV.mk k2 n2 s2 An2 ns2 cn2 Ai2 is2 ci2).j 6 = FB at *
  generalize cmpX (LV.mk k n s An ns cn Ai is ci).j (LV.mk k2 n2 s2 An2 ns2 cn2 Ai2 is2 ci2).j = CX at *
  generalize cmpJ (LV.mk k n s An ns cn Ai is ci).j (LV.mk k2 n2 s2 An2 ns2 cn2 Ai2 is2 ci2).j = CJ at *
  have HW := Lib.hid hW
  clear hW hv hv2 hT hvW hvW2 hTW hN1 hN2
  show Calls Tryd.prog 5 #[.agg (valBlk k n s An ns cn Ai is ci), .agg (valBlk k2 n2 s2 An2 ns2 cn2 Ai2 is2 ci2)] w _
  go_enter Tryd.func5, Tryd.ntmps5
  go_wp2_with fail
  rw [← HW.out]
  go_wp2_with fail
  (with_reducible refine (HA.out W (Below.refl _ _)).mono ?_)
  rintro e w1 ⟨rfl, hb1⟩
  have hB1 := hb1
  have hF1 := hF0.below hb1 hF0.lt
  have hG1 := hG0.below hb1 hG0.lt
  clear hF0 hG0
  obtain ⟨c0, c1, c2, c3, c4⟩ : w1.cell? ⟨w.heap.size, 0, none⟩ = some (.int .i64 k) ∧ w1.cell? ⟨w.heap.size, 1, none⟩ = some (.int .i64 n) ∧ w1.cell? ⟨w.heap.size, 2, none⟩ = some (.string s) ∧ w1.cell? ⟨w.heap.size, 3, none⟩ = some (.slice An ns.length cn) ∧ w1.cell? ⟨w.heap.size, 4, none⟩ = some (.slice Ai is.length ci) := ⟨hF1.cell 0, hF1.cell 1, hF1.cell 2, hF1.cell 3, hF1.cell 4⟩
  obtain ⟨d0, d1, d2, d3, d4⟩ : w1.cell? ⟨w.heap.size + 1, 0, none⟩ = some (.int .i64 k2) ∧ w1.cell? ⟨w.heap.size + 1, 1, none⟩ = some (.int .i64 n2) ∧ w1.cell? ⟨w.heap.size + 1, 2, none⟩ = some (.string s2) ∧ w1.cell? ⟨w.heap.size + 1, 3, none⟩ = some (.slice An2 ns2.length cn2) ∧ w1.cell? ⟨w.heap.size + 1, 4, none⟩ = some (.slice Ai2 is2.length ci2) := ⟨hG1.cell 0, hG1.cell 1, hG1.cell 2, hG1.cell 3, hG1.cell 4⟩
  go_wp2_with fail
  (with_reducible refine (HFEW.out w1 hB1).mono ?_)
  rintro e w2 ⟨⟨bf, rfl⟩, hb2⟩
  clear c0 c1 c2 c3 c4 d0 d1 d2 d3 d4
  have hB2 := hB1.trans (hb2.mono hB1.size)
  have hF2 := hF1.below hb2 hF1.lt
  have hG2 := hG1.below hb2 hG1.lt
  clear hF1 hG1
  cases bf with
  | false =>
    go_wp2_with fail
    refine (HA.out w2 hB2).mono ?_
    rintro e wz ⟨rfl, hbz⟩
    go_wp2
    go_ret
    exact ⟨rfl, hB0.trans ((hB2.trans (hbz.mono hB2.size)).mono hB0.size)⟩
  | true =>
  obtain ⟨c0, c1, c2, c3, c4⟩ : w2.cell? ⟨w.heap.size, 0, none⟩ = some (.int .i64 k) ∧ w2.cell? ⟨w.heap.size, 1, none⟩ = some (.int .i64 n) ∧ w2.cell? ⟨w.heap.size, 2, none⟩ = some (.string s) ∧ w2.cell? ⟨w.heap.size, 3, none⟩ = some (.slice An ns.length cn) ∧ w2.cell? ⟨w.heap.size, 4, none⟩ = some (.slice Ai is.length ci) := ⟨hF2.cell 0, hF2.cell 1, hF2.cell 2, hF2.cell 3, hF2.cell 4⟩
  go_wp2_with fail
  (with_reducible refine (HF1.out w2 hB2).mono ?_)
  rintro e w3 ⟨⟨bb, rfl, hbb⟩, hb3⟩
  clear c0 c1 c2 c3 c4
  have hB3 := hB2.trans (hb3.mono hB2.size)
  have hF3 := hF2.below hb3 hF2.lt
  have hG3 := hG2.below hb3 hG2.lt
  clear hF2 hG2
  cases bb with
  | false =>
    clear hbb
    go_wp2_with fail
    refine (HA.out w3 hB3).mono ?_
    rintro e wz ⟨rfl, hbz⟩
    go_wp2
    go_ret
    exact ⟨rfl, hB0.trans ((hB3.trans (hbz.mono hB3.size)).mono hB0.size)⟩
  | true =>
  have hfm1 := hbb.1 rfl
  have HFM1 := Lib.hid hfm1
  clear hbb hfm1
  obtain ⟨c0, c1, c2, c3, c4⟩ : w3.cell? ⟨w.heap.size + 1, 0, none⟩ = some (.int .i64 k2) ∧ w3.cell? ⟨w.heap.size + 1, 1, none⟩ = some (.int .i64 n2) ∧ w3.cell? ⟨w.heap.size + 1, 2, none⟩ = some (.string s2) ∧ w3.cell? ⟨w.heap.size + 1, 3, none⟩ = some (.slice An2 ns2.length cn2) ∧ w3.cell? ⟨w.heap.size + 1, 4, none⟩ = some (.slice Ai2 is2.length ci2) := ⟨hG3.cell 0, hG3.cell 1, hG3.cell 2, hG3.cell 3, hG3.cell 4⟩
  go_wp2_with fail
  (with_reducible refine (HF2.out w3 hB3).mono ?_)
  rintro e w4 ⟨⟨bb, rfl, hbb⟩, hb4⟩
  clear c0 c1 c2 c3 c4
  have hB4 := hB3.trans (hb4.mono hB3.size)
  have hF4 := hF3.below hb4 hF3.lt
  have hG4 := hG3.below hb4 hG3.lt
  clear hF3 hG3
  cases bb with
  | false =>
    clear hbb
    go_wp2_with fail
    refine (HA.out w4 hB4).mono ?_
    rintro e wz ⟨rfl, hbz⟩
    go_wp2
    go_ret
    exact ⟨rfl, hB0.trans ((hB4.trans (hbz.mono hB4.size)).mono hB0.size)⟩
  | true =>
  have hfm2 := hbb.1 rfl
  have HFM2 := Lib.hid hfm2
  clear hbb hfm2
  obtain ⟨ex1, ee1⟩ := HP1.out HFM1.out
  obtain ⟨ex2, ee2⟩ := HP2.out HFM2.out
  obtain ⟨ecx, hord, hla, hlb, hoa, hob, hcj⟩ := HORD.out HFM1.out HFM2.out
  have HOR := Lib.hid hord
  have HLA := Lib.hid hla
  have HLB := Lib.hid hlb
  have HOA := Lib.hid hoa
  have HOB := Lib.hid hob
  subst ex1 ex2 ee1 ee2 ecx
  clear HP1 HP2 HORD hord hla hlb hoa hob HF1 HF2 HFEW
  obtain ⟨c0, c1, c2, c3, c4⟩ : w4.cell? ⟨w.heap.size, 0, none⟩ = some (.int .i64 k) ∧ w4.cell? ⟨w.heap.size, 1, none⟩ = some (.int .i64 n) ∧ w4.cell? ⟨w.heap.size, 2, none⟩ = some (.string s) ∧ w4.cell? ⟨w.heap.size, 3, none⟩ = some (.slice An ns.length cn) ∧ w4.cell? ⟨w.heap.size, 4, none⟩ = some (.slice Ai is.length ci) := ⟨hF4.cell 0, hF4.cell 1, hF4.cell 2, hF4.cell 3, hF4.cell 4⟩
  go_wp2_with fail
  (with_reducible refine (HK1.out w4 hB4).mono ?_)
  rintro e w5 ⟨⟨_, A1, q1, rfl, rfl, hq1, hm1, _, hc1⟩, hb5⟩
  clear c0 c1 c2 c3 c4
  have hB5 := hB4.trans (hb5.mono hB4.size)
  have hF5 := hF4.below hb5 hF4.lt
  have hG5 := hG4.below hb5 hG4.lt
  clear hF4 hG4
  obtain ⟨c0, c1, c2, c3, c4⟩ : w5.cell? ⟨w.heap.size + 1, 0, none⟩ = some (.int .i64 k2) ∧ w5.cell? ⟨w.heap.size + 1, 1, none⟩ = some (.int .i64 n2) ∧ w5.cell? ⟨w.heap.size + 1, 2, none⟩ = some (.string s2) ∧ w5.cell? ⟨w.heap.size + 1, 3, none⟩ = some (.slice An2 ns2.length cn2) ∧ w5.cell? ⟨w.heap.size + 1, 4, none⟩ = some (.slice Ai2 is2.length ci2) := ⟨hG5.cell 0, hG5.cell 1, hG5.cell 2, hG5.cell 3, hG5.cell 4⟩
  go_wp2_with fail
  (with_reducible refine (HK2.out w5 hB5).mono ?_)
  rintro e w6 ⟨⟨_, A2, q2, rfl, rfl, hq2, hm2, _, hc2⟩, hb6⟩
  clear c0 c1 c2 c3 c4
  have hB6 := hB5.trans (hb6.mono hB5.size)
  have hF6 := hF5.below hb6 hF5.lt
  have hG6 := hG5.below hb6 hG5.lt
  clear hF5 hG5
  have hc1a := (hc1.below hb6).whole
  obtain ⟨c0, c1, c2, c3, c4⟩ : w6.cell? ⟨w.heap.size, 0, none⟩ = some (.int .i64 k) ∧ w6.cell? ⟨w.heap.size, 1, none⟩ = some (.int .i64 n) ∧ w6.cell? ⟨w.heap.size, 2, none⟩ = some (.string s) ∧ w6.cell? ⟨w.heap.size, 3, none⟩ = some (.slice An ns.length cn) ∧ w6.cell? ⟨w.heap.size, 4, none⟩ = some (.slice Ai is.length ci) := ⟨hF6.cell 0, hF6.cell 1, hF6.cell 2, hF6.cell 3, hF6.cell 4⟩
  obtain ⟨d0, d1, d2, d3, d4⟩ : w6.cell? ⟨w.heap.size + 1, 0, none⟩ = some (.int .i64 k2) ∧ w6.cell? ⟨w.heap.size + 1, 1, none⟩ = some (.int .i64 n2) ∧ w6.cell? ⟨w.heap.size + 1, 2, none⟩ = some (.string s2) ∧ w6.cell? ⟨w.heap.size + 1, 3, none⟩ = some (.slice An2 ns2.length cn2) ∧ w6.cell? ⟨w.heap.size + 1, 4, none⟩ = some (.slice Ai2 is2.length ci2) := ⟨hG6.cell 0, hG6.cell 1, hG6.cell 2, hG6.cell 3, hG6.cell 4⟩
  go_wp2_with fail
  (with_reducible refine (HCM.out w6 hB6).mono ?_)
  rintro e w7 ⟨rfl, hb7⟩
  clear c0 c1 c2 c3 c4 d0 d1 d2 d3 d4
  have hB7 := hB6.trans (hb7.mono hB6.size)
  have hF7 := hF6.below hb7 hF6.lt
  have hG7 := hG6.below hb7 hG6.lt
  clear hF6 hG6
  have hc1b := (hc1a.below hb7).whole
  have hc2b := (hc2.below hb7).whole
  obtain ⟨LA, hLA⟩ : ∃ n, n = XA.length := ⟨_, rfl⟩
  obtain ⟨LB, hLB⟩ : ∃ n, n = XB.length := ⟨_, rfl⟩
  have HEA := Lib.hid hLA
  have HEB := Lib.hid hLB
  rw [← hLA] at hq1 ⊢
  rw [← hLB] at hq2 ⊢
  clear hLA hLB
  have HLC := Lib.hid (lessK_n A1 A2 XA XB LA LB q1 q2 _ w7 HEA.out HEB.out HOR.out.1 hc1b hc2b (by have := HLA.out; omega) (by have := HLB.out; omega) HOA.out HOB.out)
  go_wp2_with fail
  (with_reducible refine (HLC.out).mono ?_)
  rintro e w8 ⟨rfl, hb8⟩
  have hB8 := hB7.trans (hb8.mono hB7.size)
  have hF8 := hF7.below hb8 hF7.lt
  have hG8 := hG7.below hb8 hG7.lt
  clear hF7 hG7
  have hc1c := (hc1b.below hb8).whole
  have hc2c := (hc2b.below hb8).whole
  have HSC := Lib.hid (sameK_n A1 A2 XA XB LA LB q1 q2 (CX == 0) w8 HEA.out HEB.out (by rw [sgn_zero hcj]; unfold sameB; congr 1; exact propext HOR.out.2.1) hc1c hc2c (by have := HLA.out; omega))
  go_wp2_with fail
  (with_reducible refine (HSC.out).mono ?_)
  rintro e w9 ⟨rfl, hb9⟩
  have hB9 := hB8.trans (hb9.mono hB8.size)
  have hF9 := hF8.below hb9 hF8.lt
  have hG9 := hG8.below hb9 hG8.lt
  clear hF8 hG8
  have hc1d := (hc1c.below hb9).whole
  have hc2d := (hc2c.below hb9).whole
  by_cases hcx : CX = 0
  · subst hcx
    go_wp2
    refine region_calm (by kernel_rfl) (by kernel_rfl) ?_
    repeat (first
      | go_big_quiet_skip
      | (go_big_quiet_want
         apply quiet_at
         · intro w' hw'
           (skip)
           go_simp
           first
             | done
             | exact rfl
             | (fail)
         (try simp only [Act.put, List.setIfInBounds_toArray, List.set_cons_zero, List.set_cons_succ])
         go_big_quiet_on))
    refine wpQuiet_nil ?_
    intro w5 hb5
    go_wp2
    go_ret
    exact ⟨rfl, hB0.trans ((hB9.trans (hb5.mono hB9.size)).mono hB0.size)⟩
  obtain ⟨M, hM⟩ : ∃ M, M = min LA LB := ⟨_, rfl⟩
  have hM1 : M ≤ LA := by omega
  have hM2 : M ≤ LB := by omega
  have HNE : Hid (sameB (XA.take M) (XB.take M) = false) := Lib.hid (by rw [hM, HEA.out, HEB.out]; unfold sameB; rw [decide_eq_false_iff_not]; exact HOR.out.2.2 hcx)
  have HSD : Hid (∀ w', Calm w9 w' → Calls Tryd.prog 13 #[.slice A1 M q1, .slice A2 M q2] w' fun e w'' => e = .returned (.bool false) ∧ Below w'.heap.size w' w'') := Lib.hid fun w' hw' => sameK_n A1 A2 (XA.take M) (XB.take M) M M q1 q2 false w' (by rw [List.length_take, ← HEA.out]; omega) (by rw [List.length_take, ← HEB.out]; omega) HNE.out ((hc1d.below hw').whole.takeU M) ((hc2d.below hw').whole.takeU M) (by rw [List.length_take]; have := HLA.out; omega)
  have hcb : (CX == 0) = false := by simpa using hcx
  have hMI : min (LA : Int) (LB : Int) = (M : Int) := by omega
  have hM1I : (M : Int) ≤ (q1 : Int) := by omega
  have hM2I : (M : Int) ≤ (q2 : Int) := by omega
  have hM0 : (0 : Int) ≤ (M : Int) := by omega
  have HMM := Lib.hid hM
  clear hM hcx
  go_wp2
  refine region_calm (by kernel_rfl) (by kernel_rfl) ?_
  repeat (first
    | go_big_quiet_skip
    | (go_big_quiet_want
       apply quiet_at
       · intro w' hw'
         (skip)
         go_simp
         first
           | done
           | exact rfl
           | ((first | (go_at_call 13; (with_reducible refine (HSD.out _ (by assumption)).mono ?_); rintro e w9 ⟨h1, h2⟩; exact ⟨h1, Below.trans (by assumption) (h2.mono (Below.size (by assumption)))⟩)))
       (try simp only [Act.put, List.setIfInBounds_toArray, List.set_cons_zero, List.set_cons_succ])
       go_big_quiet_on))
  refine wpQuiet_nil ?_
  intro w5 hb5
  go_wp2
  go_ret
  exact ⟨rfl, hB0.trans ((hB9.trans (hb5.mono hB9.size)).mono hB0.size)⟩
end Go.Proofs.YtpnbmgfnnmmokaaDoor
