/-
  OrderCompares: its walk.
-/
import Derived.Test.YtmobolefijneoaaDoorOe
set_option linter.unusedVariables false
namespace Go.Proofs.YtmobolefijneoaaDoor
open Go.RowKit

theorem RowAt.two {w : World} {v v2 : LV} (h : v.At w) (h2 : v2.At w) : RowAt (w.alloc (.cells (v.cells ++ v2.cells).toArray 25)) (some ⟨w.heap.size, 0, none⟩) [v, v2] 2 := by
  have hb : Below w.heap.size w (w.alloc (.cells (v.cells ++ v2.cells).toArray 25)) := (Below.refl _ _).alloc (Nat.le_refl _) _
  refine RowAt.mk ?_ ⟨h.below hb _, h2.below hb _, trivial⟩ (by simp)
  rw [World.size_alloc]
  have := cells_blk w (v.cells ++ v2.cells).toArray 25
  simpa using this

set_option maxRecDepth 8000 in
set_option maxHeartbeats 8000000 in
theorem compares_walk (v v2 : LV) (w : World) (hT : Tabs w) (hv : v.At w) (hv2 : v2.At w) : Calls Tryd.prog 3 #[v.val, v2.val] w fun e w' => e = .returned (.bool true) ∧ Below w.heap.size w w' := by
  obtain ⟨k, n, s, An, ns, cn, Ai, is, ci⟩ := v
  obtain ⟨k2, n2, s2, An2, ns2, cn2, Ai2, is2, ci2⟩ := v2
  obtain ⟨W, hW⟩ : ∃ W, W = (w.alloc (.cells (valBlk k n s An ns cn Ai is ci) 25)).alloc (.cells (valBlk k2 n2 s2 An2 ns2 cn2 Ai2 is2 ci2) 25) := ⟨_, rfl⟩
  have hB0 : Below w.heap.size w W := by rw [hW]; exact ((Below.refl _ _).alloc (Nat.le_refl _) _).alloc (by simp) _
  have hF : Blk W w.heap.size 25 (valBlk k n s An ns cn Ai is ci) := by rw [hW]; exact (Blk.new w _ _).alloc _
  have hG : Blk W (w.heap.size + 1) 25 (valBlk k2 n2 s2 An2 ns2 cn2 Ai2 is2 ci2) := by rw [hW]; exact Blk.second w _ _ _
  have hvW := hv.below hB0 _
  have hvW2 := hv2.below hB0 _
  have hTW := hT.below hB0
  have HA : Hid (∀ w1, Below W.heap.size W w1 → Calls Tryd.prog 9 #[] w1 fun e w' => e = .returned (.bool true) ∧ Below w1.heap.size w1 w') := Lib.hid fun w1 hb => awake03_any w1 (hTW.below hb)
  have HFEW : Hid (∀ w1, Below W.heap.size W w1 → Calls Tryd.prog 10 #[.slice (some ⟨w1.heap.size, 0, none⟩) 2 2] (w1.alloc (.cells #[.int .i64 k, .int .i64 n, .string s, .slice An ns.length cn, .slice Ai is.length ci, .int .i64 k2, .int .i64 n2, .string s2, .slice An2 ns2.length cn2, .slice Ai2 is2.length ci2] 25)) fun e w' => BoolRes e ∧ Below w1.heap.size w1 w') := Lib.hid fun w1 hb =>
    (few03_any _ _ _ _ (RowAt.two (hvW.below hb _) (hvW2.below hb _))).mono fun e w' ⟨h1, h2⟩ => ⟨h1, ((Below.refl w1.heap.size w1).alloc (Nat.le_refl _) _).trans (h2.mono (by simp))⟩
  obtain ⟨X, hX⟩ : ∃ X, cmpX (LV.mk k n s An ns cn Ai is ci).j (LV.mk k2 n2 s2 An2 ns2 cn2 Ai2 is2 ci2).j = X := ⟨_, rfl⟩
  have H1 : Hid (∀ w1, Below W.heap.size W w1 → Calls Tryd.prog 11 #[.agg #[.int .i64 k, .int .i64 n, .string s, .slice An ns.length cn, .slice Ai is.length ci], .agg #[.int .i64 k2, .int .i64 n2, .string s2, .slice An2 ns2.length cn2, .slice Ai2 is2.length ci2]] w1 fun e w' => e = .returned (.int .i64 X) ∧ Below w1.heap.size w1 w') := Lib.hid fun w1 hb => by
    have := oCompare_any _ _ w1 (hTW.below hb) (hvW.below hb _) (hvW2.below hb _)
    rw [hX] at this
    exact this
  have H2 : Hid (∀ w1, Below W.heap.size W w1 → Calls Tryd.prog 12 #[.agg #[.int .i64 k, .int .i64 n, .string s, .slice An ns.length cn, .slice Ai is.length ci], .agg #[.int .i64 k2, .int .i64 n2, .string s2, .slice An2 ns2.length cn2, .slice Ai2 is2.length ci2]] w1 fun e w' => e = .returned (.int .i64 X) ∧ Below w1.heap.size w1 w') := Lib.hid fun w1 hb => by
    have := rCompare_any _ _ w1 (hTW.below hb) (hvW.below hb _) (hvW2.below hb _)
    rw [hX] at this
    exact this
  have HW := Lib.hid hW
  clear hW hv hv2 hT hX hvW hvW2 hTW
  show Calls Tryd.prog 3 #[.agg (valBlk k n s An ns cn Ai is ci), .agg (valBlk k2 n2 s2 An2 ns2 cn2 Ai2 is2 ci2)] w _
  go_enter Tryd.func3, Tryd.ntmps3
  go_wp2_with fail
  rw [← HW.out]
  refine (HA.out W (Below.refl _ _)).mono ?_
  rintro e w1 ⟨rfl, hb1⟩
  have hF1 := hF.below hb1 hF.lt
  have hG1 := hG.below hb1 hG.lt
  obtain ⟨c0, c1, c2, c3, c4⟩ : w1.cell? ⟨w.heap.size, 0, none⟩ = some (.int .i64 k) ∧ w1.cell? ⟨w.heap.size, 1, none⟩ = some (.int .i64 n) ∧ w1.cell? ⟨w.heap.size, 2, none⟩ = some (.string s) ∧ w1.cell? ⟨w.heap.size, 3, none⟩ = some (.slice An ns.length cn) ∧ w1.cell? ⟨w.heap.size, 4, none⟩ = some (.slice Ai is.length ci) := ⟨hF1.cell 0, hF1.cell 1, hF1.cell 2, hF1.cell 3, hF1.cell 4⟩
  obtain ⟨d0, d1, d2, d3, d4⟩ : w1.cell? ⟨w.heap.size + 1, 0, none⟩ = some (.int .i64 k2) ∧ w1.cell? ⟨w.heap.size + 1, 1, none⟩ = some (.int .i64 n2) ∧ w1.cell? ⟨w.heap.size + 1, 2, none⟩ = some (.string s2) ∧ w1.cell? ⟨w.heap.size + 1, 3, none⟩ = some (.slice An2 ns2.length cn2) ∧ w1.cell? ⟨w.heap.size + 1, 4, none⟩ = some (.slice Ai2 is2.length ci2) := ⟨hG1.cell 0, hG1.cell 1, hG1.cell 2, hG1.cell 3, hG1.cell 4⟩
  go_wp2_with fail
  refine (HFEW.out w1 hb1).mono ?_
  rintro e w2 ⟨⟨bf, rfl⟩, hb2⟩
  clear c0 c1 c2 c3 c4 d0 d1 d2 d3 d4
  have hB2 := hb1.trans (hb2.mono hb1.size)
  have hF2 := hF1.below hb2 hF1.lt
  have hG2 := hG1.below hb2 hG1.lt
  have lF := hF2.lt
  have lG := hG2.lt
  cases bf with
  | false =>
    go_wp2_with fail
    refine (HA.out w2 hB2).mono ?_
    rintro e w3 ⟨rfl, hb3⟩
    go_wp2
    go_ret
    exact ⟨rfl, hB0.trans ((hB2.trans (hb3.mono hB2.size)).mono hB0.size)⟩
  | true =>
  have HS : Hid (∀ w', Calm w2 w' → w'.cell? ⟨w.heap.size, 0, none⟩ = some (.int .i64 k) ∧ w'.cell? ⟨w.heap.size, 1, none⟩ = some (.int .i64 n) ∧ w'.cell? ⟨w.heap.size, 2, none⟩ = some (.string s) ∧ w'.cell? ⟨w.heap.size, 3, none⟩ = some (.slice An ns.length cn) ∧ w'.cell? ⟨w.heap.size, 4, none⟩ = some (.slice Ai is.length ci) ∧ w'.cell? ⟨w.heap.size + 1, 0, none⟩ = some (.int .i64 k2) ∧ w'.cell? ⟨w.heap.size + 1, 1, none⟩ = some (.int .i64 n2) ∧ w'.cell? ⟨w.heap.size + 1, 2, none⟩ = some (.string s2) ∧ w'.cell? ⟨w.heap.size + 1, 3, none⟩ = some (.slice An2 ns2.length cn2) ∧ w'.cell? ⟨w.heap.size + 1, 4, none⟩ = some (.slice Ai2 is2.length ci2)) := Lib.hid fun w' hw' => by
    have hF3 := hF2.below hw' lF
    have hG3 := hG2.below hw' lG
    exact ⟨hF3.cell 0, hF3.cell 1, hF3.cell 2, hF3.cell 3, hF3.cell 4, hG3.cell 0, hG3.cell 1, hG3.cell 2, hG3.cell 3, hG3.cell 4⟩
  have HBW : Hid (∀ w', Calm w2 w' → Below W.heap.size W w') := Lib.hid fun w' hw' => hB2.trans (Below.mono hw' hB2.size)
  have hxx : (X == X) = true := by simp
  go_wp2
  refine region_calm (by kernel_rfl) (by kernel_rfl) ?_
  repeat (first
    | go_big_quiet_skip
    | (go_big_quiet_want
       apply quiet_at
       · intro w' hw'
         (obtain ⟨c0, c1, c2, c3, c4, d0, d1, d2, d3, d4⟩ := HS.out _ (by assumption))
         go_simp
         first
           | done
           | exact rfl
           | ((first | (go_at_call 11; refine (H1.out _ (HBW.out _ (by assumption))).mono ?_; rintro e w9 ⟨h1, h2⟩; exact ⟨h1, Below.trans (by assumption) (h2.mono (Below.size (by assumption)))⟩) | (go_at_call 12; refine (H2.out _ (HBW.out _ (by assumption))).mono ?_; rintro e w9 ⟨h1, h2⟩; exact ⟨h1, Below.trans (by assumption) (h2.mono (Below.size (by assumption)))⟩)))
       (try simp only [Act.put, List.setIfInBounds_toArray, List.set_cons_zero, List.set_cons_succ])
       go_big_quiet_on))
  refine wpQuiet_nil ?_
  intro w5 hb5
  have hB5 := HBW.out _ hb5
  go_wp2
  go_ret
  exact ⟨rfl, hB0.trans (hB5.mono hB0.size)⟩
end Go.Proofs.YtmobolefijneoaaDoor
