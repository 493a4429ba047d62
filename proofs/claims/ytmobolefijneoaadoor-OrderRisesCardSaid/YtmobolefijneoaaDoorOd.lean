/-
  The contracts of Compare, of order and of munimentref03.
-/
import Derived.Test.YtmobolefijneoaaDoorOc
set_option linter.unusedVariables false
namespace Go.Proofs.YtmobolefijneoaaDoor
open Go.RowKit

open Classical in
/-- What Compare says. -/
noncomputable def cmpX (a b : JV) : Int := if FormedP a 6 ∧ FormedP b 6 then cmpJ a b else 0

set_option maxRecDepth 8000 in
set_option maxHeartbeats 8000000 in
theorem oCompare_any (v v2 : LV) (w : World) (hT : Tabs w) (hv : v.At w) (hv2 : v2.At w) : Calls Tryd.prog 11 #[v.val, v2.val] w fun e w' => e = .returned (.int .i64 (cmpX v.j v2.j)) ∧ Below w.heap.size w w' := by
  obtain ⟨k, n, s, An, ns, cn, Ai, is, ci⟩ := v
  obtain ⟨k2, n2, s2, An2, ns2, cn2, Ai2, is2, ci2⟩ := v2
  obtain ⟨W, hW⟩ : ∃ W, W = (w.alloc (.cells (valBlk k n s An ns cn Ai is ci) 25)).alloc (.cells (valBlk k2 n2 s2 An2 ns2 cn2 Ai2 is2 ci2) 25) := ⟨_, rfl⟩
  have hB0 : Below w.heap.size w W := by rw [hW]; exact ((Below.refl _ _).alloc (Nat.le_refl _) _).alloc (by simp) _
  have hF : Blk W w.heap.size 25 (valBlk k n s An ns cn Ai is ci) := by rw [hW]; exact (Blk.new w _ _).alloc _
  have hG : Blk W (w.heap.size + 1) 25 (valBlk k2 n2 s2 An2 ns2 cn2 Ai2 is2 ci2) := by rw [hW]; exact Blk.second w _ _ _
  have hvW := hv.below hB0 _
  have hvW2 := hv2.below hB0 _
  have hTW := hT.below hB0
  obtain ⟨X, hX⟩ : ∃ X, cmpX (LV.mk k n s An ns cn Ai is ci).j (LV.mk k2 n2 s2 An2 ns2 cn2 Ai2 is2 ci2).j = X := ⟨_, rfl⟩
  rw [hX]
  have HA : Hid (∀ w', Below W.heap.size W w' → Calls Tryd.prog 13 #[(LV.mk k n s An ns cn Ai is ci).val] w' fun e w'' => BoolIs (FormedP (LV.mk k n s An ns cn Ai is ci).j 6) e ∧ Below w'.heap.size w' w'') := Lib.hid fun w' hb => jformed_any _ w' (hvW.below hb _) (hTW.below hb)
  have HB : Hid (∀ w', Below W.heap.size W w' → Calls Tryd.prog 13 #[(LV.mk k2 n2 s2 An2 ns2 cn2 Ai2 is2 ci2).val] w' fun e w'' => BoolIs (FormedP (LV.mk k2 n2 s2 An2 ns2 cn2 Ai2 is2 ci2).j 6) e ∧ Below w'.heap.size w' w'') := Lib.hid fun w' hb => jformed_any _ w' (hvW2.below hb _) (hTW.below hb)
  have HC : Hid (FormedP (LV.mk k n s An ns cn Ai is ci).j 6 → FormedP (LV.mk k2 n2 s2 An2 ns2 cn2 Ai2 is2 ci2).j 6 → ∀ w', Below W.heap.size W w' → Calls Tryd.prog 23 #[(LV.mk k n s An ns cn Ai is ci).val, (LV.mk k2 n2 s2 An2 ns2 cn2 Ai2 is2 ci2).val] w' fun e w'' => e = .returned (.int .i64 X) ∧ Below w'.heap.size w' w'') := Lib.hid fun h1 h2 w' hb => by
    rw [← hX, cmpX, if_pos ⟨h1, h2⟩]
    exact compare_any _ _ _ 6 6 w' (Nat.lt_succ_self _) (hvW.below hb _) (hvW2.below hb _) h1 h2
  have HX0 : Hid (¬ (FormedP (LV.mk k n s An ns cn Ai is ci).j 6 ∧ FormedP (LV.mk k2 n2 s2 An2 ns2 cn2 Ai2 is2 ci2).j 6) → X = 0) := Lib.hid fun h => by rw [← hX, cmpX, if_neg h]
  generalize FormedP (LV.mk k n s An ns cn Ai is ci).j 6 = P1 at *
  generalize FormedP (LV.mk k2 n2 s2 An2 ns2 cn2 Ai2 is2 ci2).j 6 = P2 at *
  have HW := Lib.hid hW
  clear hW hv hv2 hT hX hvW hvW2 hTW
  show Calls Tryd.prog 11 #[.agg (valBlk k n s An ns cn Ai is ci), .agg (valBlk k2 n2 s2 An2 ns2 cn2 Ai2 is2 ci2)] w _
  go_enter Tryd.func11, Tryd.ntmps11
  go_wp2_with fail
  rw [← HW.out]
  refine (HA.out W (Below.refl _ _)).mono ?_
  rintro e w1 ⟨⟨b1, rfl, hb1'⟩, hb1⟩
  have H1 := Lib.hid hb1'
  clear hb1'
  have hF1 := hF.below hb1 hF.lt
  have hG1 := hG.below hb1 hG.lt
  cases b1 with
  | false =>
    have HE : Hid (X = 0) := Lib.hid (HX0.out fun h => by have := H1.out.2 h.1; cases this)
    clear H1
    go_wp2
    go_ret
    exact ⟨by rw [HE.out] <;> rfl, hB0.trans (hb1.mono hB0.size)⟩
  | true =>
  have HP1 := Lib.hid (H1.out.1 rfl)
  clear H1
  obtain ⟨d0, d1, d2, d3, d4⟩ : w1.cell? ⟨w.heap.size + 1, 0, none⟩ = some (.int .i64 k2) ∧ w1.cell? ⟨w.heap.size + 1, 1, none⟩ = some (.int .i64 n2) ∧ w1.cell? ⟨w.heap.size + 1, 2, none⟩ = some (.string s2) ∧ w1.cell? ⟨w.heap.size + 1, 3, none⟩ = some (.slice An2 ns2.length cn2) ∧ w1.cell? ⟨w.heap.size + 1, 4, none⟩ = some (.slice Ai2 is2.length ci2) := ⟨hG1.cell 0, hG1.cell 1, hG1.cell 2, hG1.cell 3, hG1.cell 4⟩
  go_wp2_with fail
  refine (HB.out w1 hb1).mono ?_
  rintro e w2 ⟨⟨b2, rfl, hb2'⟩, hb2⟩
  have H2 := Lib.hid hb2'
  clear hb2' d0 d1 d2 d3 d4
  have hB2 := hb1.trans (hb2.mono hb1.size)
  have hF2 := hF1.below hb2 hF1.lt
  have hG2 := hG1.below hb2 hG1.lt
  cases b2 with
  | false =>
    have HE : Hid (X = 0) := Lib.hid (HX0.out fun h => by have := H2.out.2 h.2; cases this)
    clear H2
    go_wp2
    go_ret
    exact ⟨by rw [HE.out] <;> rfl, hB0.trans (hB2.mono hB0.size)⟩
  | true =>
  have HP2 := Lib.hid (H2.out.1 rfl)
  clear H2
  obtain ⟨c0, c1, c2, c3, c4⟩ : w2.cell? ⟨w.heap.size, 0, none⟩ = some (.int .i64 k) ∧ w2.cell? ⟨w.heap.size, 1, none⟩ = some (.int .i64 n) ∧ w2.cell? ⟨w.heap.size, 2, none⟩ = some (.string s) ∧ w2.cell? ⟨w.heap.size, 3, none⟩ = some (.slice An ns.length cn) ∧ w2.cell? ⟨w.heap.size, 4, none⟩ = some (.slice Ai is.length ci) := ⟨hF2.cell 0, hF2.cell 1, hF2.cell 2, hF2.cell 3, hF2.cell 4⟩
  obtain ⟨d0, d1, d2, d3, d4⟩ : w2.cell? ⟨w.heap.size + 1, 0, none⟩ = some (.int .i64 k2) ∧ w2.cell? ⟨w.heap.size + 1, 1, none⟩ = some (.int .i64 n2) ∧ w2.cell? ⟨w.heap.size + 1, 2, none⟩ = some (.string s2) ∧ w2.cell? ⟨w.heap.size + 1, 3, none⟩ = some (.slice An2 ns2.length cn2) ∧ w2.cell? ⟨w.heap.size + 1, 4, none⟩ = some (.slice Ai2 is2.length ci2) := ⟨hG2.cell 0, hG2.cell 1, hG2.cell 2, hG2.cell 3, hG2.cell 4⟩
  go_wp2_with fail
  refine (HC.out HP1.out HP2.out w2 hB2).mono ?_
  rintro e w3 ⟨rfl, hb3⟩
  go_wp2
  go_ret
  exact ⟨rfl, hB0.trans ((hB2.trans (hb3.mono hB2.size)).mono hB0.size)⟩

set_option maxRecDepth 8000 in
set_option maxHeartbeats 8000000 in
theorem rCompare_any (v v2 : LV) (w : World) (hT : Tabs w) (hv : v.At w) (hv2 : v2.At w) : Calls Tryd.prog 12 #[v.val, v2.val] w fun e w' => e = .returned (.int .i64 (cmpX v.j v2.j)) ∧ Below w.heap.size w w' := by
  obtain ⟨k, n, s, An, ns, cn, Ai, is, ci⟩ := v
  obtain ⟨k2, n2, s2, An2, ns2, cn2, Ai2, is2, ci2⟩ := v2
  obtain ⟨W, hW⟩ : ∃ W, W = (w.alloc (.cells (valBlk k n s An ns cn Ai is ci) 25)).alloc (.cells (valBlk k2 n2 s2 An2 ns2 cn2 Ai2 is2 ci2) 25) := ⟨_, rfl⟩
  have hB0 : Below w.heap.size w W := by rw [hW]; exact ((Below.refl _ _).alloc (Nat.le_refl _) _).alloc (by simp) _
  have hF : Blk W w.heap.size 25 (valBlk k n s An ns cn Ai is ci) := by rw [hW]; exact (Blk.new w _ _).alloc _
  have hG : Blk W (w.heap.size + 1) 25 (valBlk k2 n2 s2 An2 ns2 cn2 Ai2 is2 ci2) := by rw [hW]; exact Blk.second w _ _ _
  have hvW := hv.below hB0 _
  have hvW2 := hv2.below hB0 _
  have hTW := hT.below hB0
  obtain ⟨X, hX⟩ : ∃ X, cmpX (LV.mk k n s An ns cn Ai is ci).j (LV.mk k2 n2 s2 An2 ns2 cn2 Ai2 is2 ci2).j = X := ⟨_, rfl⟩
  rw [hX]
  have HA : Hid (∀ w', Below W.heap.size W w' → Calls Tryd.prog 24 #[(LV.mk k n s An ns cn Ai is ci).val] w' fun e w'' => BoolIs (FormedP (LV.mk k n s An ns cn Ai is ci).j 6) e ∧ Below w'.heap.size w' w'') := Lib.hid fun w' hb => rformed_any _ w' (hvW.below hb _)
  have HB : Hid (∀ w', Below W.heap.size W w' → Calls Tryd.prog 24 #[(LV.mk k2 n2 s2 An2 ns2 cn2 Ai2 is2 ci2).val] w' fun e w'' => BoolIs (FormedP (LV.mk k2 n2 s2 An2 ns2 cn2 Ai2 is2 ci2).j 6) e ∧ Below w'.heap.size w' w'') := Lib.hid fun w' hb => rformed_any _ w' (hvW2.below hb _)
  have HC : Hid (FormedP (LV.mk k n s An ns cn Ai is ci).j 6 → FormedP (LV.mk k2 n2 s2 An2 ns2 cn2 Ai2 is2 ci2).j 6 → ∀ w', Below W.heap.size W w' → Calls Tryd.prog 25 #[(LV.mk k n s An ns cn Ai is ci).val, (LV.mk k2 n2 s2 An2 ns2 cn2 Ai2 is2 ci2).val] w' fun e w'' => e = .returned (.int .i64 X) ∧ Below w'.heap.size w' w'') := Lib.hid fun h1 h2 w' hb => by
    rw [← hX, cmpX, if_pos ⟨h1, h2⟩]
    exact plain_any _ _ _ 6 6 w' (Nat.lt_succ_self _) (hvW.below hb _) (hvW2.below hb _) h1 h2
  have HX0 : Hid (¬ (FormedP (LV.mk k n s An ns cn Ai is ci).j 6 ∧ FormedP (LV.mk k2 n2 s2 An2 ns2 cn2 Ai2 is2 ci2).j 6) → X = 0) := Lib.hid fun h => by rw [← hX, cmpX, if_neg h]
  generalize FormedP (LV.mk k n s An ns cn Ai is ci).j 6 = P1 at *
  generalize FormedP (LV.mk k2 n2 s2 An2 ns2 cn2 Ai2 is2 ci2).j 6 = P2 at *
  have HW := Lib.hid hW
  clear hW hv hv2 hT hX hvW hvW2 hTW
  show Calls Tryd.prog 12 #[.agg (valBlk k n s An ns cn Ai is ci), .agg (valBlk k2 n2 s2 An2 ns2 cn2 Ai2 is2 ci2)] w _
  go_enter Tryd.func12, Tryd.ntmps12
  go_wp2_with fail
  rw [← HW.out]
  refine (HA.out W (Below.refl _ _)).mono ?_
  rintro e w1 ⟨⟨b1, rfl, hb1'⟩, hb1⟩
  have H1 := Lib.hid hb1'
  clear hb1'
  have hF1 := hF.below hb1 hF.lt
  have hG1 := hG.below hb1 hG.lt
  cases b1 with
  | false =>
    have HE : Hid (X = 0) := Lib.hid (HX0.out fun h => by have := H1.out.2 h.1; cases this)
    clear H1
    go_wp2
    go_ret
    exact ⟨by rw [HE.out] <;> rfl, hB0.trans (hb1.mono hB0.size)⟩
  | true =>
  have HP1 := Lib.hid (H1.out.1 rfl)
  clear H1
  obtain ⟨d0, d1, d2, d3, d4⟩ : w1.cell? ⟨w.heap.size + 1, 0, none⟩ = some (.int .i64 k2) ∧ w1.cell? ⟨w.heap.size + 1, 1, none⟩ = some (.int .i64 n2) ∧ w1.cell? ⟨w.heap.size + 1, 2, none⟩ = some (.string s2) ∧ w1.cell? ⟨w.heap.size + 1, 3, none⟩ = some (.slice An2 ns2.length cn2) ∧ w1.cell? ⟨w.heap.size + 1, 4, none⟩ = some (.slice Ai2 is2.length ci2) := ⟨hG1.cell 0, hG1.cell 1, hG1.cell 2, hG1.cell 3, hG1.cell 4⟩
  go_wp2_with fail
  refine (HB.out w1 hb1).mono ?_
  rintro e w2 ⟨⟨b2, rfl, hb2'⟩, hb2⟩
  have H2 := Lib.hid hb2'
  clear hb2' d0 d1 d2 d3 d4
  have hB2 := hb1.trans (hb2.mono hb1.size)
  have hF2 := hF1.below hb2 hF1.lt
  have hG2 := hG1.below hb2 hG1.lt
  cases b2 with
  | false =>
    have HE : Hid (X = 0) := Lib.hid (HX0.out fun h => by have := H2.out.2 h.2; cases this)
    clear H2
    go_wp2
    go_ret
    exact ⟨by rw [HE.out] <;> rfl, hB0.trans (hB2.mono hB0.size)⟩
  | true =>
  have HP2 := Lib.hid (H2.out.1 rfl)
  clear H2
  obtain ⟨c0, c1, c2, c3, c4⟩ : w2.cell? ⟨w.heap.size, 0, none⟩ = some (.int .i64 k) ∧ w2.cell? ⟨w.heap.size, 1, none⟩ = some (.int .i64 n) ∧ w2.cell? ⟨w.heap.size, 2, none⟩ = some (.string s) ∧ w2.cell? ⟨w.heap.size, 3, none⟩ = some (.slice An ns.length cn) ∧ w2.cell? ⟨w.heap.size, 4, none⟩ = some (.slice Ai is.length ci) := ⟨hF2.cell 0, hF2.cell 1, hF2.cell 2, hF2.cell 3, hF2.cell 4⟩
  obtain ⟨d0, d1, d2, d3, d4⟩ : w2.cell? ⟨w.heap.size + 1, 0, none⟩ = some (.int .i64 k2) ∧ w2.cell? ⟨w.heap.size + 1, 1, none⟩ = some (.int .i64 n2) ∧ w2.cell? ⟨w.heap.size + 1, 2, none⟩ = some (.string s2) ∧ w2.cell? ⟨w.heap.size + 1, 3, none⟩ = some (.slice An2 ns2.length cn2) ∧ w2.cell? ⟨w.heap.size + 1, 4, none⟩ = some (.slice Ai2 is2.length ci2) := ⟨hG2.cell 0, hG2.cell 1, hG2.cell 2, hG2.cell 3, hG2.cell 4⟩
  go_wp2_with fail
  refine (HC.out HP1.out HP2.out w2 hB2).mono ?_
  rintro e w3 ⟨rfl, hb3⟩
  go_wp2
  go_ret
  exact ⟨rfl, hB0.trans ((hB2.trans (hb3.mono hB2.size)).mono hB0.size)⟩
end Go.Proofs.YtmobolefijneoaaDoor
