/-
  The contract of path.Put.
-/
import Derived.Test.YtkjjafijmpacpaaDoorWn
import Derived.Test.YtkjjafijmpacpaaDoorWl
set_option linter.unusedVariables false
namespace Go.Proofs.YtkjjafijmpacpaaDoor
open Go.RowKit

set_option maxRecDepth 8000 in
set_option maxHeartbeats 32000000 in
theorem Put_any (v x : LV) (s0 : ByteArray) (w : World) (hv : v.At w) (hx : x.At w) (hs : s0.size ≤ 2000) (hT : Tabs w) :
    Calls Tryd.prog 15 #[v.val, .string s0, x.val] w fun e w' => PutsRes (putX v.j s0 x.j) e w' ∧ Below w.heap.size w w' := by
  obtain ⟨k, n, s, An, ns, cn, Ai, is, ci⟩ := v
  obtain ⟨k2, n2, s2, An2, ns2, cn2, Ai2, is2, ci2⟩ := x
  obtain ⟨W, hW⟩ : ∃ W, W = ((w.alloc (.cells (valBlk k n s An ns cn Ai is ci) 30)).alloc (.cells (valBlk k2 n2 s2 An2 ns2 cn2 Ai2 is2 ci2) 30)).alloc (.cells zeroBlk 30) := ⟨_, rfl⟩
  have hB0 : Below w.heap.size w W := by rw [hW]; exact (((Below.refl _ _).alloc (Nat.le_refl _) _).alloc (by simp) _).alloc (by simp; omega) _
  have hF : Blk W w.heap.size 30 (valBlk k n s An ns cn Ai is ci) := by rw [hW]; exact ((Blk.new w _ _).alloc _).alloc _
  have hG : Blk W (w.heap.size + 1) 30 (valBlk k2 n2 s2 An2 ns2 cn2 Ai2 is2 ci2) := by rw [hW]; exact (Blk.second w _ _ _).alloc _
  have hZ : Blk W (w.heap.size + 2) 30 zeroBlk := by
    rw [hW]
    have := Blk.new ((w.alloc (.cells (valBlk k n s An ns cn Ai is ci) 30)).alloc (.cells (valBlk k2 n2 s2 An2 ns2 cn2 Ai2 is2 ci2) 30)) 30 zeroBlk
    rwa [World.size_alloc, World.size_alloc] at this
  have HV := Lib.hid hv
  have HXV := Lib.hid hx
  have hTW := hT.below hB0
  obtain ⟨X, hX⟩ : ∃ X, putX (LV.mk k n s An ns cn Ai is ci).j s0 (LV.mk k2 n2 s2 An2 ns2 cn2 Ai2 is2 ci2).j = X := ⟨_, rfl⟩
  rw [hX]
  obtain ⟨Y, hY⟩ : ∃ Y, stepsP s0 (s0.size + 1) 0 0 [] = Y := ⟨_, rfl⟩
  have HST : Hid (Calls Tryd.prog 9 #[.string s0] W (StepsRes Y W)) := Lib.hid (by rw [← hY]; exact stepsT s0 W hs hTW)
  have HF1 : Hid (∀ w1, Below W.heap.size W w1 → Calls Tryd.prog 17 #[.agg #[.int .i64 k, .int .i64 n, .string s, .slice An ns.length cn, .slice Ai is.length ci]] w1 fun e w' => BoolIs (FormedP (LV.mk k n s An ns cn Ai is ci).j 6) e ∧ Below w1.heap.size w1 w') := Lib.hid fun w' hb => jformed_any _ w' ((HV.out.below hB0 _).below hb _) (hTW.below hb)
  have HF2 : Hid (∀ w1, Below W.heap.size W w1 → Calls Tryd.prog 17 #[.agg #[.int .i64 k2, .int .i64 n2, .string s2, .slice An2 ns2.length cn2, .slice Ai2 is2.length ci2]] w1 fun e w' => BoolIs (FormedP (LV.mk k2 n2 s2 An2 ns2 cn2 Ai2 is2 ci2).j 6) e ∧ Below w1.heap.size w1 w') := Lib.hid fun w' hb => jformed_any _ w' ((HXV.out.below hB0 _).below hb _) (hTW.below hb)
  have HX1 : Hid (Y = none → X = (2, zeroJ)) := Lib.hid fun h => by rw [← hX, putX, hY, h]
  have HX2 : Hid (∀ l, Y = some l → ¬ (FormedP (LV.mk k n s An ns cn Ai is ci).j 6 ∧ FormedP (LV.mk k2 n2 s2 An2 ns2 cn2 Ai2 is2 ci2).j 6 ∧ k = 6) → X = (2, zeroJ)) := Lib.hid fun l h hn => by
    rw [← hX]
    exact putX_bad (hY.trans h) (fun e => hn ⟨e.1, e.2.1, by have := e.2.2; rw [LV.j] at this; exact this⟩)
  have HX3 : Hid (∀ l, Y = some l → FormedP (LV.mk k n s An ns cn Ai is ci).j 6 → FormedP (LV.mk k2 n2 s2 An2 ns2 cn2 Ai2 is2 ci2).j 6 → k = 6 → ∀ Q, putP l (LV.mk k n s An ns cn Ai is ci).j (LV.mk k2 n2 s2 An2 ns2 cn2 Ai2 is2 ci2).j = Q → (Q = none → X = (4, zeroJ)) ∧ ∀ j, Q = some j → (FormedP j 6 → X = (0, j)) ∧ (¬ FormedP j 6 → X = (3, zeroJ))) := Lib.hid fun l h h1 h2 h3 Q hQ => by
    rw [← hX]
    exact putX_ok (hY.trans h) h1 h2 (by rw [LV.j]; exact h3) hQ
  have HGOOD : Hid (∀ l, Y = some l → l ≠ [] ∧ ∀ t ∈ l, t.size ≤ 2000) := Lib.hid fun l h => steps_good (hY.trans h)
  have HSZ : Hid (W.heap.size = w.heap.size + 3) := Lib.hid (by rw [hW]; simp)
  have HTW := Lib.hid hTW
  have HW := Lib.hid hW
  have hsz : w.heap.size ≤ W.heap.size := hB0.size
  clear hW hv hx hT hTW hX hY
  show Calls Tryd.prog 15 #[.agg (valBlk k n s An ns cn Ai is ci), .string s0, .agg (valBlk k2 n2 s2 An2 ns2 cn2 Ai2 is2 ci2)] w _
  go_enter Tryd.func15, Tryd.ntmps15
  go_wp2_with fail
  rw [← HW.out]
  refine HST.out.mono ?_
  cases Y with
  | none =>
    have HE := Lib.hid (HX1.out rfl)
    clear HX1 HX2 HX3 HST HF1 HF2 HGOOD
    rintro e w2 ⟨rfl, hb2⟩
    have hZ2 := hZ.below hb2 hZ.lt
    have hBF := hB0.trans (hb2.mono hB0.size)
    obtain ⟨W9, hW9⟩ : ∃ W9, W9 = ((((w2.setCell ⟨w.heap.size + 2, 0, none⟩ (.int .i64 0)).setCell ⟨w.heap.size + 2, 1, none⟩ (.int .i64 0)).setCell ⟨w.heap.size + 2, 2, none⟩ (.string ⟨#[]⟩)).setCell ⟨w.heap.size + 2, 3, none⟩ (.slice none 0 0)).setCell ⟨w.heap.size + 2, 4, none⟩ (.slice none 0 0) := ⟨_, rfl⟩
    have hch : Chg w2 W9 (fun k => k = w.heap.size + 2) := by rw [hW9]; exact chg_five w2 (w.heap.size + 2) (.int .i64 0) (.int .i64 0) (.string ⟨#[]⟩) (.slice none 0 0) (.slice none 0 0)
    have hFin : Below w.heap.size w W9 := hBF.trans (hch.below hBF.size fun i hi => by omega)
    have hZF : Blk W9 (w.heap.size + 2) 30 #[.int .i64 0, .int .i64 0, .string ⟨#[]⟩, .slice none 0 0, .slice none 0 0] := by rw [hW9]; exact hZ2.five (.int .i64 0) (.int .i64 0) (.string ⟨#[]⟩) (.slice none 0 0) (.slice none 0 0)
    obtain ⟨j0, j1, j2, j3, j4⟩ : W9.cell? ⟨w.heap.size + 2, 0, none⟩ = some (.int .i64 0) ∧ W9.cell? ⟨w.heap.size + 2, 1, none⟩ = some (.int .i64 0) ∧ W9.cell? ⟨w.heap.size + 2, 2, none⟩ = some (.string ⟨#[]⟩) ∧ W9.cell? ⟨w.heap.size + 2, 3, none⟩ = some (.slice none 0 0) ∧ W9.cell? ⟨w.heap.size + 2, 4, none⟩ = some (.slice none 0 0) := ⟨hZF.cell 0, hZF.cell 1, hZF.cell 2, hZF.cell 3, hZF.cell 4⟩
    obtain ⟨y0, y1, y2, y3, y4⟩ : w2.frozen? ⟨w.heap.size + 2, 0, none⟩ = false ∧ w2.frozen? ⟨w.heap.size + 2, 1, none⟩ = false ∧ w2.frozen? ⟨w.heap.size + 2, 2, none⟩ = false ∧ w2.frozen? ⟨w.heap.size + 2, 3, none⟩ = false ∧ w2.frozen? ⟨w.heap.size + 2, 4, none⟩ = false := ⟨hZ2.free 0, hZ2.free 1, hZ2.free 2, hZ2.free 3, hZ2.free 4⟩
    obtain ⟨x0, x1, x2, x3, x4⟩ : w2.cell? ⟨w.heap.size + 2, 0, none⟩ = some (.int .i64 0) ∧ w2.cell? ⟨w.heap.size + 2, 1, none⟩ = some (.int .i64 0) ∧ w2.cell? ⟨w.heap.size + 2, 2, none⟩ = some (.string ⟨#[]⟩) ∧ w2.cell? ⟨w.heap.size + 2, 3, none⟩ = some (.slice none 0 0) ∧ w2.cell? ⟨w.heap.size + 2, 4, none⟩ = some (.slice none 0 0) := ⟨hZ2.cell 0, hZ2.cell 1, hZ2.cell 2, hZ2.cell 3, hZ2.cell 4⟩
    have HW9 := Lib.hid hW9
    clear hW9
    go_wp2
    rw [← HW9.out]
    exact bodyPost_ret (v := .tuple #[.agg #[.int .i64 0, .int .i64 0, .string ⟨#[]⟩, .slice none 0 0, .slice none 0 0], .int .i64 2]) (by simp [results, Tryd.results15, go_sem, j0, j1, j2, j3, j4]) rfl ⟨⟨zeroV, by rw [HE.out]; rfl, zero_at _, by rw [HE.out]; rfl⟩, hFin⟩
  | some l =>
    have HG0 := Lib.hid (HGOOD.out l rfl)
    have HXB := Lib.hid (HX2.out l rfl)
    have HXC := Lib.hid (HX3.out l rfl)
    clear HX1 HX2 HX3 HGOOD
    rintro e w2 ⟨⟨v2, rfl, hown⟩, hb2⟩
    clear HST
    obtain ⟨A, cp, rfl, hcp, hcm, _⟩ := ownsRow_shape hown
    unfold maxLen at hcm
    have HCP := Lib.hid (⟨hcp, hcm⟩ : l.length ≤ cp ∧ cp ≤ 2 ^ 63 - 1)
    clear hcp hcm
    have hF2 := hF.below hb2 hF.lt
    have hG2 := hG.below hb2 hG.lt
    have hZ2 := hZ.below hb2 hZ.lt
    have hBF2 := hB0.trans (hb2.mono hB0.size)
    obtain ⟨c0, c1, c2, c3, c4⟩ : w2.cell? ⟨w.heap.size, 0, none⟩ = some (.int .i64 k) ∧ w2.cell? ⟨w.heap.size, 1, none⟩ = some (.int .i64 n) ∧ w2.cell? ⟨w.heap.size, 2, none⟩ = some (.string s) ∧ w2.cell? ⟨w.heap.size, 3, none⟩ = some (.slice An ns.length cn) ∧ w2.cell? ⟨w.heap.size, 4, none⟩ = some (.slice Ai is.length ci) := ⟨hF2.cell 0, hF2.cell 1, hF2.cell 2, hF2.cell 3, hF2.cell 4⟩
    obtain ⟨P1, hP1⟩ : ∃ P, P = FormedP (LV.mk k n s An ns cn Ai is ci).j 6 := ⟨_, rfl⟩
    obtain ⟨P2, hP2⟩ : ∃ P, P = FormedP (LV.mk k2 n2 s2 An2 ns2 cn2 Ai2 is2 ci2).j 6 := ⟨_, rfl⟩
    rw [← hP1] at HF1 HXB HXC
    rw [← hP2] at HF2 HXB HXC
    have HP1 := Lib.hid hP1
    have HP2 := Lib.hid hP2
    clear hP1 hP2
    obtain ⟨LL, hLL⟩ : ∃ n, l.length = n := ⟨_, rfl⟩
    rw [hLL] at hown HCP ⊢
    have HLL := Lib.hid hLL
    clear hLL
    go_wp2_with fail
    refine (HF1.out w2 hb2).mono ?_
    rintro e w3 ⟨⟨bb, rfl, hbb⟩, hb3⟩
    have HBB := Lib.hid hbb
    clear hbb c0 c1 c2 c3 c4 HF1
    have hB3 := hb2.trans (hb3.mono hb2.size)
    have hF3 := hF2.below hb3 hF2.lt
    have hG3 := hG2.below hb3 hG2.lt
    have hZ3 := hZ2.below hb3 hZ2.lt
    have hBF3 := hBF2.trans (hb3.mono hBF2.size)
    have hown3 := row_below hown hb3
    cases bb with
    | false =>
      have HE : Hid (X = (2, zeroJ)) := Lib.hid (HXB.out fun h => by have := HBB.out.2 h.1; cases this)
      clear HBB HXB HXC
      obtain ⟨W9, hW9⟩ : ∃ W9, W9 = ((((w3.setCell ⟨w.heap.size + 2, 0, none⟩ (.int .i64 0)).setCell ⟨w.heap.size + 2, 1, none⟩ (.int .i64 0)).setCell ⟨w.heap.size + 2, 2, none⟩ (.string ⟨#[]⟩)).setCell ⟨w.heap.size + 2, 3, none⟩ (.slice none 0 0)).setCell ⟨w.heap.size + 2, 4, none⟩ (.slice none 0 0) := ⟨_, rfl⟩
      have hch : Chg w3 W9 (fun k => k = w.heap.size + 2) := by rw [hW9]; exact chg_five w3 (w.heap.size + 2) (.int .i64 0) (.int .i64 0) (.string ⟨#[]⟩) (.slice none 0 0) (.slice none 0 0)
      have hFin : Below w.heap.size w W9 := hBF3.trans (hch.below hBF3.size fun i hi => by omega)
      have hZF : Blk W9 (w.heap.size + 2) 30 #[.int .i64 0, .int .i64 0, .string ⟨#[]⟩, .slice none 0 0, .slice none 0 0] := by rw [hW9]; exact hZ3.five (.int .i64 0) (.int .i64 0) (.string ⟨#[]⟩) (.slice none 0 0) (.slice none 0 0)
      obtain ⟨j0, j1, j2, j3, j4⟩ : W9.cell? ⟨w.heap.size + 2, 0, none⟩ = some (.int .i64 0) ∧ W9.cell? ⟨w.heap.size + 2, 1, none⟩ = some (.int .i64 0) ∧ W9.cell? ⟨w.heap.size + 2, 2, none⟩ = some (.string ⟨#[]⟩) ∧ W9.cell? ⟨w.heap.size + 2, 3, none⟩ = some (.slice none 0 0) ∧ W9.cell? ⟨w.heap.size + 2, 4, none⟩ = some (.slice none 0 0) := ⟨hZF.cell 0, hZF.cell 1, hZF.cell 2, hZF.cell 3, hZF.cell 4⟩
      obtain ⟨y0, y1, y2, y3, y4⟩ : w3.frozen? ⟨w.heap.size + 2, 0, none⟩ = false ∧ w3.frozen? ⟨w.heap.size + 2, 1, none⟩ = false ∧ w3.frozen? ⟨w.heap.size + 2, 2, none⟩ = false ∧ w3.frozen? ⟨w.heap.size + 2, 3, none⟩ = false ∧ w3.frozen? ⟨w.heap.size + 2, 4, none⟩ = false := ⟨hZ3.free 0, hZ3.free 1, hZ3.free 2, hZ3.free 3, hZ3.free 4⟩
      obtain ⟨x0, x1, x2, x3, x4⟩ : w3.cell? ⟨w.heap.size + 2, 0, none⟩ = some (.int .i64 0) ∧ w3.cell? ⟨w.heap.size + 2, 1, none⟩ = some (.int .i64 0) ∧ w3.cell? ⟨w.heap.size + 2, 2, none⟩ = some (.string ⟨#[]⟩) ∧ w3.cell? ⟨w.heap.size + 2, 3, none⟩ = some (.slice none 0 0) ∧ w3.cell? ⟨w.heap.size + 2, 4, none⟩ = some (.slice none 0 0) := ⟨hZ3.cell 0, hZ3.cell 1, hZ3.cell 2, hZ3.cell 3, hZ3.cell 4⟩
      have HW9 := Lib.hid hW9
      clear hW9
      go_wp2
      rw [← HW9.out]
      exact bodyPost_ret (v := .tuple #[.agg #[.int .i64 0, .int .i64 0, .string ⟨#[]⟩, .slice none 0 0, .slice none 0 0], .int .i64 2]) (by simp [results, Tryd.results15, go_sem, j0, j1, j2, j3, j4]) rfl ⟨⟨zeroV, by rw [HE.out]; rfl, zero_at _, by rw [HE.out]; rfl⟩, hFin⟩
    | true =>
    have HQ1 := Lib.hid (HBB.out.1 rfl)
    clear HBB
    obtain ⟨c0, c1, c2, c3, c4⟩ : w3.cell? ⟨w.heap.size + 1, 0, none⟩ = some (.int .i64 k2) ∧ w3.cell? ⟨w.heap.size + 1, 1, none⟩ = some (.int .i64 n2) ∧ w3.cell? ⟨w.heap.size + 1, 2, none⟩ = some (.string s2) ∧ w3.cell? ⟨w.heap.size + 1, 3, none⟩ = some (.slice An2 ns2.length cn2) ∧ w3.cell? ⟨w.heap.size + 1, 4, none⟩ = some (.slice Ai2 is2.length ci2) := ⟨hG3.cell 0, hG3.cell 1, hG3.cell 2, hG3.cell 3, hG3.cell 4⟩
    go_wp2_with fail
    refine (HF2.out w3 hB3).mono ?_
    rintro e w4 ⟨⟨bb, rfl, hbb⟩, hb4⟩
    have HBB := Lib.hid hbb
    clear hbb c0 c1 c2 c3 c4 HF2
    have hB4 := hB3.trans (hb4.mono hB3.size)
    have hF4 := hF3.below hb4 hF3.lt
    have hG4 := hG3.below hb4 hG3.lt
    have hZ4 := hZ3.below hb4 hZ3.lt
    have hBF4 := hBF3.trans (hb4.mono hBF3.size)
    have hown4 := row_below hown3 hb4
    cases bb with
    | false =>
      have HE : Hid (X = (2, zeroJ)) := Lib.hid (HXB.out fun h => by have := HBB.out.2 h.2.1; cases this)
      clear HBB HXB HXC
      obtain ⟨W9, hW9⟩ : ∃ W9, W9 = ((((w4.setCell ⟨w.heap.size + 2, 0, none⟩ (.int .i64 0)).setCell ⟨w.heap.size + 2, 1, none⟩ (.int .i64 0)).setCell ⟨w.heap.size + 2, 2, none⟩ (.string ⟨#[]⟩)).setCell ⟨w.heap.size + 2, 3, none⟩ (.slice none 0 0)).setCell ⟨w.heap.size + 2, 4, none⟩ (.slice none 0 0) := ⟨_, rfl⟩
      have hch : Chg w4 W9 (fun k => k = w.heap.size + 2) := by rw [hW9]; exact chg_five w4 (w.heap.size + 2) (.int .i64 0) (.int .i64 0) (.string ⟨#[]⟩) (.slice none 0 0) (.slice none 0 0)
      have hFin : Below w.heap.size w W9 := hBF4.trans (hch.below hBF4.size fun i hi => by omega)
      have hZF : Blk W9 (w.heap.size + 2) 30 #[.int .i64 0, .int .i64 0, .string ⟨#[]⟩, .slice none 0 0, .slice none 0 0] := by rw [hW9]; exact hZ4.five (.int .i64 0) (.int .i64 0) (.string ⟨#[]⟩) (.slice none 0 0) (.slice none 0 0)
      obtain ⟨j0, j1, j2, j3, j4⟩ : W9.cell? ⟨w.heap.size + 2, 0, none⟩ = some (.int .i64 0) ∧ W9.cell? ⟨w.heap.size + 2, 1, none⟩ = some (.int .i64 0) ∧ W9.cell? ⟨w.heap.size + 2, 2, none⟩ = some (.string ⟨#[]⟩) ∧ W9.cell? ⟨w.heap.size + 2, 3, none⟩ = some (.slice none 0 0) ∧ W9.cell? ⟨w.heap.size + 2, 4, none⟩ = some (.slice none 0 0) := ⟨hZF.cell 0, hZF.cell 1, hZF.cell 2, hZF.cell 3, hZF.cell 4⟩
      obtain ⟨y0, y1, y2, y3, y4⟩ : w4.frozen? ⟨w.heap.size + 2, 0, none⟩ = false ∧ w4.frozen? ⟨w.heap.size + 2, 1, none⟩ = false ∧ w4.frozen? ⟨w.heap.size + 2, 2, none⟩ = false ∧ w4.frozen? ⟨w.heap.size + 2, 3, none⟩ = false ∧ w4.frozen? ⟨w.heap.size + 2, 4, none⟩ = false := ⟨hZ4.free 0, hZ4.free 1, hZ4.free 2, hZ4.free 3, hZ4.free 4⟩
      obtain ⟨x0, x1, x2, x3, x4⟩ : w4.cell? ⟨w.heap.size + 2, 0, none⟩ = some (.int .i64 0) ∧ w4.cell? ⟨w.heap.size + 2, 1, none⟩ = some (.int .i64 0) ∧ w4.cell? ⟨w.heap.size + 2, 2, none⟩ = some (.string ⟨#[]⟩) ∧ w4.cell? ⟨w.heap.size + 2, 3, none⟩ = some (.slice none 0 0) ∧ w4.cell? ⟨w.heap.size + 2, 4, none⟩ = some (.slice none 0 0) := ⟨hZ4.cell 0, hZ4.cell 1, hZ4.cell 2, hZ4.cell 3, hZ4.cell 4⟩
      have HW9 := Lib.hid hW9
      clear hW9
      go_wp2
      rw [← HW9.out]
      exact bodyPost_ret (v := .tuple #[.agg #[.int .i64 0, .int .i64 0, .string ⟨#[]⟩, .slice none 0 0, .slice none 0 0], .int .i64 2]) (by simp [results, Tryd.results15, go_sem, j0, j1, j2, j3, j4]) rfl ⟨⟨zeroV, by rw [HE.out]; rfl, zero_at _, by rw [HE.out]; rfl⟩, hFin⟩
    | true =>
    have HQ2 := Lib.hid (HBB.out.1 rfl)
    clear HBB hown hown3 hF2 hF3 hG2 hG3 hZ2 hZ3 hBF2 hBF3 hb2 hb3 hb4 hB3
    obtain ⟨c0, c1, c2, c3, c4⟩ : w4.cell? ⟨w.heap.size, 0, none⟩ = some (.int .i64 k) ∧ w4.cell? ⟨w.heap.size, 1, none⟩ = some (.int .i64 n) ∧ w4.cell? ⟨w.heap.size, 2, none⟩ = some (.string s) ∧ w4.cell? ⟨w.heap.size, 3, none⟩ = some (.slice An ns.length cn) ∧ w4.cell? ⟨w.heap.size, 4, none⟩ = some (.slice Ai is.length ci) := ⟨hF4.cell 0, hF4.cell 1, hF4.cell 2, hF4.cell 3, hF4.cell 4⟩
    obtain ⟨d0, d1, d2, d3, d4⟩ : w4.cell? ⟨w.heap.size + 1, 0, none⟩ = some (.int .i64 k2) ∧ w4.cell? ⟨w.heap.size + 1, 1, none⟩ = some (.int .i64 n2) ∧ w4.cell? ⟨w.heap.size + 1, 2, none⟩ = some (.string s2) ∧ w4.cell? ⟨w.heap.size + 1, 3, none⟩ = some (.slice An2 ns2.length cn2) ∧ w4.cell? ⟨w.heap.size + 1, 4, none⟩ = some (.slice Ai2 is2.length ci2) := ⟨hG4.cell 0, hG4.cell 1, hG4.cell 2, hG4.cell 3, hG4.cell 4⟩
    by_cases hk : k = 6
    rotate_left
    · have hkI : (k != 6) = true := by rw [bne_iff_ne]; exact hk
      have HE : Hid (X = (2, zeroJ)) := Lib.hid (HXB.out fun h => hk h.2.2)
      clear hk HXB HXC
      obtain ⟨W9, hW9⟩ : ∃ W9, W9 = ((((w4.setCell ⟨w.heap.size + 2, 0, none⟩ (.int .i64 0)).setCell ⟨w.heap.size + 2, 1, none⟩ (.int .i64 0)).setCell ⟨w.heap.size + 2, 2, none⟩ (.string ⟨#[]⟩)).setCell ⟨w.heap.size + 2, 3, none⟩ (.slice none 0 0)).setCell ⟨w.heap.size + 2, 4, none⟩ (.slice none 0 0) := ⟨_, rfl⟩
      have hch : Chg w4 W9 (fun k => k = w.heap.size + 2) := by rw [hW9]; exact chg_five w4 (w.heap.size + 2) (.int .i64 0) (.int .i64 0) (.string ⟨#[]⟩) (.slice none 0 0) (.slice none 0 0)
      have hFin : Below w.heap.size w W9 := hBF4.trans (hch.below hBF4.size fun i hi => by omega)
      have hZF : Blk W9 (w.heap.size + 2) 30 #[.int .i64 0, .int .i64 0, .string ⟨#[]⟩, .slice none 0 0, .slice none 0 0] := by rw [hW9]; exact hZ4.five (.int .i64 0) (.int .i64 0) (.string ⟨#[]⟩) (.slice none 0 0) (.slice none 0 0)
      obtain ⟨j0, j1, j2, j3, j4⟩ : W9.cell? ⟨w.heap.size + 2, 0, none⟩ = some (.int .i64 0) ∧ W9.cell? ⟨w.heap.size + 2, 1, none⟩ = some (.int .i64 0) ∧ W9.cell? ⟨w.heap.size + 2, 2, none⟩ = some (.string ⟨#[]⟩) ∧ W9.cell? ⟨w.heap.size + 2, 3, none⟩ = some (.slice none 0 0) ∧ W9.cell? ⟨w.heap.size + 2, 4, none⟩ = some (.slice none 0 0) := ⟨hZF.cell 0, hZF.cell 1, hZF.cell 2, hZF.cell 3, hZF.cell 4⟩
      obtain ⟨y0, y1, y2, y3, y4⟩ : w4.frozen? ⟨w.heap.size + 2, 0, none⟩ = false ∧ w4.frozen? ⟨w.heap.size + 2, 1, none⟩ = false ∧ w4.frozen? ⟨w.heap.size + 2, 2, none⟩ = false ∧ w4.frozen? ⟨w.heap.size + 2, 3, none⟩ = false ∧ w4.frozen? ⟨w.heap.size + 2, 4, none⟩ = false := ⟨hZ4.free 0, hZ4.free 1, hZ4.free 2, hZ4.free 3, hZ4.free 4⟩
      obtain ⟨x0, x1, x2, x3, x4⟩ : w4.cell? ⟨w.heap.size + 2, 0, none⟩ = some (.int .i64 0) ∧ w4.cell? ⟨w.heap.size + 2, 1, none⟩ = some (.int .i64 0) ∧ w4.cell? ⟨w.heap.size + 2, 2, none⟩ = some (.string ⟨#[]⟩) ∧ w4.cell? ⟨w.heap.size + 2, 3, none⟩ = some (.slice none 0 0) ∧ w4.cell? ⟨w.heap.size + 2, 4, none⟩ = some (.slice none 0 0) := ⟨hZ4.cell 0, hZ4.cell 1, hZ4.cell 2, hZ4.cell 3, hZ4.cell 4⟩
      have HW9 := Lib.hid hW9
      clear hW9
      go_wp2
      rw [← HW9.out]
      exact bodyPost_ret (v := .tuple #[.agg #[.int .i64 0, .int .i64 0, .string ⟨#[]⟩, .slice none 0 0, .slice none 0 0], .int .i64 2]) (by simp [results, Tryd.results15, go_sem, j0, j1, j2, j3, j4]) rfl ⟨⟨zeroV, by rw [HE.out]; rfl, zero_at _, by rw [HE.out]; rfl⟩, hFin⟩
    have hkI : (k != 6) = false := by rw [bne_eq_false_iff_eq]; exact hk
    have HK := Lib.hid hk
    obtain ⟨Q, hQ⟩ : ∃ Q, putP l (LV.mk k n s An ns cn Ai is ci).j (LV.mk k2 n2 s2 An2 ns2 cn2 Ai2 is2 ci2).j = Q := ⟨_, rfl⟩
    obtain ⟨hXD, hXE⟩ := HXC.out HQ1.out HQ2.out hk Q hQ
    have HXD := Lib.hid hXD
    have HXE := Lib.hid hXE
    clear hk hXD hXE HXB HXC
    have HPUT : Hid (Calls Tryd.prog 24 #[.agg #[.int .i64 k, .int .i64 n, .string s, .slice An ns.length cn, .slice Ai is.length ci], .slice A LL cp, .agg #[.int .i64 k2, .int .i64 n2, .string s2, .slice An2 ns2.length cn2, .slice Ai2 is2.length ci2]] w4 fun e w' => PutRes (LV.mk k n s An ns cn Ai is ci) (LV.mk k2 n2 s2 An2 ns2 cn2 Ai2 is2 ci2) w4.heap.size Q e w' ∧ Below w4.heap.size w4 w') := Lib.hid (by
      have hcl : Cells w4 w4.heap.size A (l.map Value.string) := by
        obtain ⟨A', c', e, _, _, h⟩ := ownsRow_shape hown4
        injection e with e1
        subst e1
        exact h
      have h := put_any l (LV.mk k n s An ns cn Ai is ci) (LV.mk k2 n2 s2 An2 ns2 cn2 Ai2 is2 ci2) A cp 6 w4 (HV.out.below hBF4 _) (HXV.out.below hBF4 _) (by rw [← HP1.out]; exact HQ1.out) HG0.out.1 HG0.out.2 hcl (by rw [HLL.out]; have := HCP.out; omega)
      rw [hQ, HLL.out] at h
      exact h)
    clear hQ
    go_wp2_with fail
    refine HPUT.out.mono ?_
    clear HPUT c0 c1 c2 c3 c4 d0 d1 d2 d3 d4
    rintro e w5 ⟨hres, hb5⟩
    have hZ5 := hZ4.below hb5 hZ4.lt
    have hBF5 := hBF4.trans (hb5.mono hBF4.size)
    have hB5 := hB4.trans (hb5.mono hB4.size)
    cases Q with
    | none =>
      have hr : e = .returned (.tuple #[.agg #[.int .i64 0, .int .i64 0, .string ⟨#[]⟩, .slice none 0 0, .slice none 0 0], .int .i64 4]) := hres
      clear hres
      subst hr
      have HE := Lib.hid (HXD.out rfl)
      have hZ6 := hZ5.alloc (.cells zeroBlk 30)
      have hBF6 := hBF5.alloc hBF5.size (.cells zeroBlk 30)
      clear HXD HXE
      go_upto_region 5 with fail
      obtain ⟨w6, hw6⟩ : ∃ w6, w6 = w5.alloc (.cells #[.int .i64 0, .int .i64 0, .string ⟨#[]⟩, .slice none 0 0, .slice none 0 0] 30) := ⟨_, rfl⟩
      rw [← hw6] at hZ6 hBF6 ⊢
      clear hw6
      obtain ⟨W9, hW9⟩ : ∃ W9, W9 = ((((w6.setCell ⟨w.heap.size + 2, 0, none⟩ (.int .i64 0)).setCell ⟨w.heap.size + 2, 1, none⟩ (.int .i64 0)).setCell ⟨w.heap.size + 2, 2, none⟩ (.string ⟨#[]⟩)).setCell ⟨w.heap.size + 2, 3, none⟩ (.slice none 0 0)).setCell ⟨w.heap.size + 2, 4, none⟩ (.slice none 0 0) := ⟨_, rfl⟩
      have hch : Chg w6 W9 (fun k => k = w.heap.size + 2) := by rw [hW9]; exact chg_five w6 (w.heap.size + 2) (.int .i64 0) (.int .i64 0) (.string ⟨#[]⟩) (.slice none 0 0) (.slice none 0 0)
      have hFin : Below w.heap.size w W9 := hBF6.trans (hch.below hBF6.size fun i hi => by omega)
      have hZF : Blk W9 (w.heap.size + 2) 30 #[.int .i64 0, .int .i64 0, .string ⟨#[]⟩, .slice none 0 0, .slice none 0 0] := by rw [hW9]; exact hZ6.five (.int .i64 0) (.int .i64 0) (.string ⟨#[]⟩) (.slice none 0 0) (.slice none 0 0)
      obtain ⟨j0, j1, j2, j3, j4⟩ : W9.cell? ⟨w.heap.size + 2, 0, none⟩ = some (.int .i64 0) ∧ W9.cell? ⟨w.heap.size + 2, 1, none⟩ = some (.int .i64 0) ∧ W9.cell? ⟨w.heap.size + 2, 2, none⟩ = some (.string ⟨#[]⟩) ∧ W9.cell? ⟨w.heap.size + 2, 3, none⟩ = some (.slice none 0 0) ∧ W9.cell? ⟨w.heap.size + 2, 4, none⟩ = some (.slice none 0 0) := ⟨hZF.cell 0, hZF.cell 1, hZF.cell 2, hZF.cell 3, hZF.cell 4⟩
      obtain ⟨y0, y1, y2, y3, y4⟩ : w6.frozen? ⟨w.heap.size + 2, 0, none⟩ = false ∧ w6.frozen? ⟨w.heap.size + 2, 1, none⟩ = false ∧ w6.frozen? ⟨w.heap.size + 2, 2, none⟩ = false ∧ w6.frozen? ⟨w.heap.size + 2, 3, none⟩ = false ∧ w6.frozen? ⟨w.heap.size + 2, 4, none⟩ = false := ⟨hZ6.free 0, hZ6.free 1, hZ6.free 2, hZ6.free 3, hZ6.free 4⟩
      obtain ⟨x0, x1, x2, x3, x4⟩ : w6.cell? ⟨w.heap.size + 2, 0, none⟩ = some (.int .i64 0) ∧ w6.cell? ⟨w.heap.size + 2, 1, none⟩ = some (.int .i64 0) ∧ w6.cell? ⟨w.heap.size + 2, 2, none⟩ = some (.string ⟨#[]⟩) ∧ w6.cell? ⟨w.heap.size + 2, 3, none⟩ = some (.slice none 0 0) ∧ w6.cell? ⟨w.heap.size + 2, 4, none⟩ = some (.slice none 0 0) := ⟨hZ6.cell 0, hZ6.cell 1, hZ6.cell 2, hZ6.cell 3, hZ6.cell 4⟩
      have HW9 := Lib.hid hW9
      clear hW9
      go_wp2
      rw [← HW9.out]
      exact bodyPost_ret (v := .tuple #[.agg #[.int .i64 0, .int .i64 0, .string ⟨#[]⟩, .slice none 0 0, .slice none 0 0], .int .i64 4]) (by simp [results, Tryd.results15, go_sem, j0, j1, j2, j3, j4]) rfl ⟨⟨zeroV, by rw [HE.out]; rfl, zero_at _, by rw [HE.out]; rfl⟩, hFin⟩
    | some j =>
      obtain ⟨z, hr, hat, hj, hnear⟩ := hres
      obtain ⟨kz, nz, sz, Anz, nsz, cnz, Aiz, isz, ciz⟩ := z
      have hr2 : e = .returned (.tuple #[.agg #[.int .i64 kz, .int .i64 nz, .string sz, .slice Anz nsz.length cnz, .slice Aiz isz.length ciz], .int .i64 0]) := hr
      clear hr
      subst hr2
      have HXJ := Lib.hid (HXE.out j rfl)
      clear HXD HXE
      go_upto_region 5 with fail
      obtain ⟨w6, hw6⟩ : ∃ w6, w6 = w5.alloc (.cells #[.int .i64 kz, .int .i64 nz, .string sz, .slice Anz nsz.length cnz, .slice Aiz isz.length ciz] 30) := ⟨_, rfl⟩
      rw [← hw6]
      have hb6 : Below w5.heap.size w5 w6 := by rw [hw6]; exact (Below.refl _ _).alloc (Nat.le_refl _) _
      have hO6 : Blk w6 w5.heap.size 30 #[.int .i64 kz, .int .i64 nz, .string sz, .slice Anz nsz.length cnz, .slice Aiz isz.length ciz] := by rw [hw6]; exact Blk.new w5 _ _
      have hZ6 := hZ5.below hb6 hZ5.lt
      have hBF6 := hBF5.trans (hb6.mono hBF5.size)
      have hB6 := hB5.trans (hb6.mono hB5.size)
      have hat6 := hat.below hb6 _
      have hon : (LV.mk kz nz sz Anz nsz cnz Aiz isz ciz).On (fun b => b ≠ w.heap.size + 2) := LV.On.mono (fun b hb => by
        have h1 := HSZ.out
        have h2 := hB4.size
        rcases hb with h | h <;> omega) _ (hnear (fun b => b < w.heap.size) HV.out.on HXV.out.on)
      clear hw6 hnear hat
      have HF3 : Hid (Calls Tryd.prog 17 #[.agg #[.int .i64 kz, .int .i64 nz, .string sz, .slice Anz nsz.length cnz, .slice Aiz isz.length ciz]] w6 fun e w'' => BoolIs (FormedP j 6) e ∧ Below w6.heap.size w6 w'') := Lib.hid (by rw [← hj]; exact jformed_any _ w6 hat6 (HTW.out.below hB6))
      have HAT := Lib.hid hat6
      have HON := Lib.hid hon
      have HJ := Lib.hid hj
      clear hat6 hon hj
      generalize w5.heap.size = g5 at *
      obtain ⟨c0, c1, c2, c3, c4⟩ : w6.cell? ⟨g5, 0, none⟩ = some (.int .i64 kz) ∧ w6.cell? ⟨g5, 1, none⟩ = some (.int .i64 nz) ∧ w6.cell? ⟨g5, 2, none⟩ = some (.string sz) ∧ w6.cell? ⟨g5, 3, none⟩ = some (.slice Anz nsz.length cnz) ∧ w6.cell? ⟨g5, 4, none⟩ = some (.slice Aiz isz.length ciz) := ⟨hO6.cell 0, hO6.cell 1, hO6.cell 2, hO6.cell 3, hO6.cell 4⟩
      go_wp2_with fail
      refine HF3.out.mono ?_
      rintro e w7 ⟨⟨bb, rfl, hbb⟩, hb7⟩
      have HBB := Lib.hid hbb
      clear hbb c0 c1 c2 c3 c4 HF3
      have hO7 := hO6.below hb7 hO6.lt
      have hZ7 := hZ6.below hb7 hZ6.lt
      have hBF7 := hBF6.trans (hb7.mono hBF6.size)
      cases bb with
      | false =>
        have HE : Hid (X = (3, zeroJ)) := Lib.hid (HXJ.out.2 fun h => by have := HBB.out.2 h; cases this)
        clear HBB HXJ
        obtain ⟨W9, hW9⟩ : ∃ W9, W9 = ((((w7.setCell ⟨w.heap.size + 2, 0, none⟩ (.int .i64 0)).setCell ⟨w.heap.size + 2, 1, none⟩ (.int .i64 0)).setCell ⟨w.heap.size + 2, 2, none⟩ (.string ⟨#[]⟩)).setCell ⟨w.heap.size + 2, 3, none⟩ (.slice none 0 0)).setCell ⟨w.heap.size + 2, 4, none⟩ (.slice none 0 0) := ⟨_, rfl⟩
        have hch : Chg w7 W9 (fun k => k = w.heap.size + 2) := by rw [hW9]; exact chg_five w7 (w.heap.size + 2) (.int .i64 0) (.int .i64 0) (.string ⟨#[]⟩) (.slice none 0 0) (.slice none 0 0)
        have hFin : Below w.heap.size w W9 := hBF7.trans (hch.below hBF7.size fun i hi => by omega)
        have hZF : Blk W9 (w.heap.size + 2) 30 #[.int .i64 0, .int .i64 0, .string ⟨#[]⟩, .slice none 0 0, .slice none 0 0] := by rw [hW9]; exact hZ7.five (.int .i64 0) (.int .i64 0) (.string ⟨#[]⟩) (.slice none 0 0) (.slice none 0 0)
        obtain ⟨j0, j1, j2, j3, j4⟩ : W9.cell? ⟨w.heap.size + 2, 0, none⟩ = some (.int .i64 0) ∧ W9.cell? ⟨w.heap.size + 2, 1, none⟩ = some (.int .i64 0) ∧ W9.cell? ⟨w.heap.size + 2, 2, none⟩ = some (.string ⟨#[]⟩) ∧ W9.cell? ⟨w.heap.size + 2, 3, none⟩ = some (.slice none 0 0) ∧ W9.cell? ⟨w.heap.size + 2, 4, none⟩ = some (.slice none 0 0) := ⟨hZF.cell 0, hZF.cell 1, hZF.cell 2, hZF.cell 3, hZF.cell 4⟩
        obtain ⟨y0, y1, y2, y3, y4⟩ : w7.frozen? ⟨w.heap.size + 2, 0, none⟩ = false ∧ w7.frozen? ⟨w.heap.size + 2, 1, none⟩ = false ∧ w7.frozen? ⟨w.heap.size + 2, 2, none⟩ = false ∧ w7.frozen? ⟨w.heap.size + 2, 3, none⟩ = false ∧ w7.frozen? ⟨w.heap.size + 2, 4, none⟩ = false := ⟨hZ7.free 0, hZ7.free 1, hZ7.free 2, hZ7.free 3, hZ7.free 4⟩
        obtain ⟨x0, x1, x2, x3, x4⟩ : w7.cell? ⟨w.heap.size + 2, 0, none⟩ = some (.int .i64 0) ∧ w7.cell? ⟨w.heap.size + 2, 1, none⟩ = some (.int .i64 0) ∧ w7.cell? ⟨w.heap.size + 2, 2, none⟩ = some (.string ⟨#[]⟩) ∧ w7.cell? ⟨w.heap.size + 2, 3, none⟩ = some (.slice none 0 0) ∧ w7.cell? ⟨w.heap.size + 2, 4, none⟩ = some (.slice none 0 0) := ⟨hZ7.cell 0, hZ7.cell 1, hZ7.cell 2, hZ7.cell 3, hZ7.cell 4⟩
        have HW9 := Lib.hid hW9
        clear hW9
        go_wp2
        rw [← HW9.out]
        exact bodyPost_ret (v := .tuple #[.agg #[.int .i64 0, .int .i64 0, .string ⟨#[]⟩, .slice none 0 0, .slice none 0 0], .int .i64 3]) (by simp [results, Tryd.results15, go_sem, j0, j1, j2, j3, j4]) rfl ⟨⟨zeroV, by rw [HE.out]; rfl, zero_at _, by rw [HE.out]; rfl⟩, hFin⟩
      | true =>
        have HE : Hid (X = (0, j)) := Lib.hid (HXJ.out.1 (HBB.out.1 rfl))
        clear HBB HXJ
        have hat7 := HAT.out.below hb7 _
        obtain ⟨c0, c1, c2, c3, c4⟩ : w7.cell? ⟨g5, 0, none⟩ = some (.int .i64 kz) ∧ w7.cell? ⟨g5, 1, none⟩ = some (.int .i64 nz) ∧ w7.cell? ⟨g5, 2, none⟩ = some (.string sz) ∧ w7.cell? ⟨g5, 3, none⟩ = some (.slice Anz nsz.length cnz) ∧ w7.cell? ⟨g5, 4, none⟩ = some (.slice Aiz isz.length ciz) := ⟨hO7.cell 0, hO7.cell 1, hO7.cell 2, hO7.cell 3, hO7.cell 4⟩
        obtain ⟨W9, hW9⟩ : ∃ W9, W9 = ((((w7.setCell ⟨w.heap.size + 2, 0, none⟩ (.int .i64 kz)).setCell ⟨w.heap.size + 2, 1, none⟩ (.int .i64 nz)).setCell ⟨w.heap.size + 2, 2, none⟩ (.string sz)).setCell ⟨w.heap.size + 2, 3, none⟩ (.slice Anz nsz.length cnz)).setCell ⟨w.heap.size + 2, 4, none⟩ (.slice Aiz isz.length ciz) := ⟨_, rfl⟩
        have hch : Chg w7 W9 (fun k => k = w.heap.size + 2) := by rw [hW9]; exact chg_five w7 (w.heap.size + 2) (.int .i64 kz) (.int .i64 nz) (.string sz) (.slice Anz nsz.length cnz) (.slice Aiz isz.length ciz)
        have hFin : Below w.heap.size w W9 := hBF7.trans (hch.below hBF7.size fun i hi => by omega)
        have hZF : Blk W9 (w.heap.size + 2) 30 #[.int .i64 kz, .int .i64 nz, .string sz, .slice Anz nsz.length cnz, .slice Aiz isz.length ciz] := by rw [hW9]; exact hZ7.five (.int .i64 kz) (.int .i64 nz) (.string sz) (.slice Anz nsz.length cnz) (.slice Aiz isz.length ciz)
        obtain ⟨j0, j1, j2, j3, j4⟩ : W9.cell? ⟨w.heap.size + 2, 0, none⟩ = some (.int .i64 kz) ∧ W9.cell? ⟨w.heap.size + 2, 1, none⟩ = some (.int .i64 nz) ∧ W9.cell? ⟨w.heap.size + 2, 2, none⟩ = some (.string sz) ∧ W9.cell? ⟨w.heap.size + 2, 3, none⟩ = some (.slice Anz nsz.length cnz) ∧ W9.cell? ⟨w.heap.size + 2, 4, none⟩ = some (.slice Aiz isz.length ciz) := ⟨hZF.cell 0, hZF.cell 1, hZF.cell 2, hZF.cell 3, hZF.cell 4⟩
        obtain ⟨y0, y1, y2, y3, y4⟩ : w7.frozen? ⟨w.heap.size + 2, 0, none⟩ = false ∧ w7.frozen? ⟨w.heap.size + 2, 1, none⟩ = false ∧ w7.frozen? ⟨w.heap.size + 2, 2, none⟩ = false ∧ w7.frozen? ⟨w.heap.size + 2, 3, none⟩ = false ∧ w7.frozen? ⟨w.heap.size + 2, 4, none⟩ = false := ⟨hZ7.free 0, hZ7.free 1, hZ7.free 2, hZ7.free 3, hZ7.free 4⟩
        obtain ⟨x0, x1, x2, x3, x4⟩ : w7.cell? ⟨w.heap.size + 2, 0, none⟩ = some (.int .i64 0) ∧ w7.cell? ⟨w.heap.size + 2, 1, none⟩ = some (.int .i64 0) ∧ w7.cell? ⟨w.heap.size + 2, 2, none⟩ = some (.string ⟨#[]⟩) ∧ w7.cell? ⟨w.heap.size + 2, 3, none⟩ = some (.slice none 0 0) ∧ w7.cell? ⟨w.heap.size + 2, 4, none⟩ = some (.slice none 0 0) := ⟨hZ7.cell 0, hZ7.cell 1, hZ7.cell 2, hZ7.cell 3, hZ7.cell 4⟩
        have HR1 := Lib.hid (LV.At.move (S := fun b => b ≠ w.heap.size + 2) (fun b hb hl => hch.block b hl hb) hch.size _ hat7 HON.out)
        have HW9 := Lib.hid hW9
        clear hW9 hat7
        go_wp2
        rw [← HW9.out]
        exact bodyPost_ret (v := .tuple #[.agg #[.int .i64 kz, .int .i64 nz, .string sz, .slice Anz nsz.length cnz, .slice Aiz isz.length ciz], .int .i64 0]) (by simp [results, Tryd.results15, go_sem, j0, j1, j2, j3, j4]) rfl ⟨⟨LV.mk kz nz sz Anz nsz cnz Aiz isz ciz, by rw [HE.out]; rfl, HR1.out, by rw [HE.out]; exact HJ.out⟩, hFin⟩
end Go.Proofs.YtkjjafijmpacpaaDoor
