/-
  PathGets: its walk.
-/
import Derived.Test.YtkjjafijmpacpaaDoorWi
set_option linter.unusedVariables false
namespace Go.Proofs.YtkjjafijmpacpaaDoor
open Go.RowKit

set_option maxRecDepth 8000 in
set_option maxHeartbeats 8000000 in
theorem gets_walk (v : LV) (s0 : ByteArray) (w : World) (hT : Tabs w) (hv : v.At w) :
    Calls Tryd.prog 4 #[v.val, .string s0] w fun e w' => e = .returned (.bool true) ∧ Below w.heap.size w w' := by
  obtain ⟨k, n, s, An, ns, cn, Ai, is, ci⟩ := v
  obtain ⟨W, hW⟩ : ∃ W, W = w.alloc (.cells (valBlk k n s An ns cn Ai is ci) 30) := ⟨_, rfl⟩
  have hB0 : Below w.heap.size w W := by rw [hW]; exact (Below.refl _ _).alloc (Nat.le_refl _) _
  have hF : Blk W w.heap.size 30 (valBlk k n s An ns cn Ai is ci) := by rw [hW]; exact Blk.new w _ _
  have hvW := hv.below hB0 _
  have hTW := hT.below hB0
  have HA : Hid (∀ w1, Below W.heap.size W w1 → Calls Tryd.prog 8 #[] w1 fun e w' => e = .returned (.bool true) ∧ Below w1.heap.size w1 w') := Lib.hid fun w1 hb => awake_any w1 (hTW.below hb)
  have HFEW : Hid (∀ w1, Below W.heap.size W w1 → Calls Tryd.prog 11 #[(LV.mk k n s An ns cn Ai is ci).val] w1 fun e w' => BoolRes e ∧ Below w1.heap.size w1 w') := Lib.hid fun w1 hb => few_any _ _ w1 (Nat.lt_succ_self _) (hvW.below hb _)
  obtain ⟨X, hX⟩ : ∃ X, getX (LV.mk k n s An ns cn Ai is ci).j s0 = X := ⟨_, rfl⟩
  have HG1 : Hid (s0.size ≤ 2000 → ∀ w1, Below W.heap.size W w1 → Calls Tryd.prog 12 #[(LV.mk k n s An ns cn Ai is ci).val, .string s0] w1 fun e w' => GetRes X e w' ∧ Below w1.heap.size w1 w') := Lib.hid fun h w1 hb => by rw [← hX]; exact get_any _ s0 w1 (hvW.below hb _) h (hTW.below hb)
  have HG2 : Hid (s0.size ≤ 2000 → ∀ w1, Below W.heap.size W w1 → Calls Tryd.prog 13 #[(LV.mk k n s An ns cn Ai is ci).val, .string s0] w1 fun e w' => GetRes X e w' ∧ Below w1.heap.size w1 w') := Lib.hid fun h w1 hb => by rw [← hX]; exact rget_any _ s0 w1 (hvW.below hb _) h (hTW.below hb)
  have HW := Lib.hid hW
  clear hW hv hT hvW hTW hX
  show Calls Tryd.prog 4 #[.agg (valBlk k n s An ns cn Ai is ci), .string s0] w _
  go_enter Tryd.func4, Tryd.ntmps4
  go_wp2_with fail
  rw [← HW.out]
  refine (HA.out W (Below.refl _ _)).mono ?_
  rintro e w1 ⟨rfl, hb1⟩
  have hF1 := hF.below hb1 hF.lt
  obtain ⟨c0, c1, c2, c3, c4⟩ : w1.cell? ⟨w.heap.size, 0, none⟩ = some (.int .i64 k) ∧ w1.cell? ⟨w.heap.size, 1, none⟩ = some (.int .i64 n) ∧ w1.cell? ⟨w.heap.size, 2, none⟩ = some (.string s) ∧ w1.cell? ⟨w.heap.size, 3, none⟩ = some (.slice An ns.length cn) ∧ w1.cell? ⟨w.heap.size, 4, none⟩ = some (.slice Ai is.length ci) := ⟨hF1.cell 0, hF1.cell 1, hF1.cell 2, hF1.cell 3, hF1.cell 4⟩
  go_wp2_with fail
  refine (HFEW.out w1 hb1).mono ?_
  rintro e w2 ⟨⟨bf, rfl⟩, hb2⟩
  have hB2 := hb1.trans (hb2.mono hb1.size)
  have hF2 := hF1.below hb2 hF1.lt
  clear c0 c1 c2 c3 c4 hF1
  cases bf with
  | false =>
    go_wp2_with fail
    refine (HA.out w2 hB2).mono ?_
    rintro e w3 ⟨rfl, hb3⟩
    go_wp2
    go_ret
    exact ⟨rfl, hB0.trans ((hB2.trans (hb3.mono hB2.size)).mono hB0.size)⟩
  | true =>
  by_cases hs : 2000 < s0.size
  · have hsI : (2000 : Int) < (s0.size : Int) := by omega
    go_wp2_with fail
    refine (HA.out w2 hB2).mono ?_
    rintro e w3 ⟨rfl, hb3⟩
    go_wp2
    go_ret
    exact ⟨rfl, hB0.trans ((hB2.trans (hb3.mono hB2.size)).mono hB0.size)⟩
  have hsI : ¬ (2000 : Int) < (s0.size : Int) := by omega
  have HC1 := Lib.hid (HG1.out (by omega) w2 hB2)
  have HC2 := Lib.hid (HG2.out (by omega))
  clear HG1 HG2
  obtain ⟨c0, c1, c2, c3, c4⟩ : w2.cell? ⟨w.heap.size, 0, none⟩ = some (.int .i64 k) ∧ w2.cell? ⟨w.heap.size, 1, none⟩ = some (.int .i64 n) ∧ w2.cell? ⟨w.heap.size, 2, none⟩ = some (.string s) ∧ w2.cell? ⟨w.heap.size, 3, none⟩ = some (.slice An ns.length cn) ∧ w2.cell? ⟨w.heap.size, 4, none⟩ = some (.slice Ai is.length ci) := ⟨hF2.cell 0, hF2.cell 1, hF2.cell 2, hF2.cell 3, hF2.cell 4⟩
  go_wp2_with fail
  refine HC1.out.mono ?_
  rintro e w3 ⟨⟨x, he, hx, hxj⟩, hb3⟩
  have HXJ := Lib.hid hxj
  clear hxj c0 c1 c2 c3 c4 HC1
  obtain ⟨k1, n1, s1, An1, ns1, cn1, Ai1, is1, ci1⟩ := x
  rw [LV.val] at he
  subst he
  have hB3 := hB2.trans (hb3.mono hB2.size)
  have hF3 := hF2.below hb3 hF2.lt
  obtain ⟨W4, hW4⟩ : ∃ W4, W4 = w3.alloc (.cells (valBlk k1 n1 s1 An1 ns1 cn1 Ai1 is1 ci1) 30) := ⟨_, rfl⟩
  have hb4 : Below w3.heap.size w3 W4 := by rw [hW4]; exact (Below.refl _ _).alloc (Nat.le_refl _) _
  have hB4 := hB3.trans (hb4.mono hB3.size)
  have hF4 := hF3.below hb4 hF3.lt
  have hP4 : Blk W4 w3.heap.size 30 (valBlk k1 n1 s1 An1 ns1 cn1 Ai1 is1 ci1) := by rw [hW4]; exact Blk.new w3 _ _
  have hx4 := hx.below hb4 _
  obtain ⟨c0, c1, c2, c3, c4⟩ : (w3.alloc (.cells (valBlk k1 n1 s1 An1 ns1 cn1 Ai1 is1 ci1) 30)).cell? ⟨w.heap.size, 0, none⟩ = some (.int .i64 k) ∧ (w3.alloc (.cells (valBlk k1 n1 s1 An1 ns1 cn1 Ai1 is1 ci1) 30)).cell? ⟨w.heap.size, 1, none⟩ = some (.int .i64 n) ∧ (w3.alloc (.cells (valBlk k1 n1 s1 An1 ns1 cn1 Ai1 is1 ci1) 30)).cell? ⟨w.heap.size, 2, none⟩ = some (.string s) ∧ (w3.alloc (.cells (valBlk k1 n1 s1 An1 ns1 cn1 Ai1 is1 ci1) 30)).cell? ⟨w.heap.size, 3, none⟩ = some (.slice An ns.length cn) ∧ (w3.alloc (.cells (valBlk k1 n1 s1 An1 ns1 cn1 Ai1 is1 ci1) 30)).cell? ⟨w.heap.size, 4, none⟩ = some (.slice Ai is.length ci) := ⟨(hF3.alloc _).cell 0, (hF3.alloc _).cell 1, (hF3.alloc _).cell 2, (hF3.alloc _).cell 3, (hF3.alloc _).cell 4⟩
  have HW4 := Lib.hid hW4
  clear hW4 hx
  go_wp2_with fail
  rw [← HW4.out]
  refine (HC2.out W4 hB4).mono ?_
  rintro e w5 ⟨⟨y, he, hy, hyj⟩, hb5⟩
  have HYJ := Lib.hid hyj
  clear hyj c0 c1 c2 c3 c4 HC2
  obtain ⟨k2, n2, s2, An2, ns2, cn2, Ai2, is2, ci2⟩ := y
  rw [LV.val] at he
  subst he
  have hB5 := hB4.trans (hb5.mono hB4.size)
  have hP5 := hP4.below hb5 hP4.lt
  have hx5 := hx4.below hb5 _
  obtain ⟨W6, hW6⟩ : ∃ W6, W6 = w5.alloc (.cells (valBlk k2 n2 s2 An2 ns2 cn2 Ai2 is2 ci2) 30) := ⟨_, rfl⟩
  have hb6 : Below w5.heap.size w5 W6 := by rw [hW6]; exact (Below.refl _ _).alloc (Nat.le_refl _) _
  have hB6 := hB5.trans (hb6.mono hB5.size)
  have hP6 := hP5.below hb6 hP5.lt
  have hQ6 : Blk W6 w5.heap.size 30 (valBlk k2 n2 s2 An2 ns2 cn2 Ai2 is2 ci2) := by rw [hW6]; exact Blk.new w5 _ _
  have HSM := Lib.hid (same_any _ _ _ W6 (Nat.lt_succ_self _) (hx5.below hb6 _) (hy.below hb6 _))
  obtain ⟨c0, c1, c2, c3, c4⟩ : (w5.alloc (.cells (valBlk k2 n2 s2 An2 ns2 cn2 Ai2 is2 ci2) 30)).cell? ⟨w3.heap.size, 0, none⟩ = some (.int .i64 k1) ∧ (w5.alloc (.cells (valBlk k2 n2 s2 An2 ns2 cn2 Ai2 is2 ci2) 30)).cell? ⟨w3.heap.size, 1, none⟩ = some (.int .i64 n1) ∧ (w5.alloc (.cells (valBlk k2 n2 s2 An2 ns2 cn2 Ai2 is2 ci2) 30)).cell? ⟨w3.heap.size, 2, none⟩ = some (.string s1) ∧ (w5.alloc (.cells (valBlk k2 n2 s2 An2 ns2 cn2 Ai2 is2 ci2) 30)).cell? ⟨w3.heap.size, 3, none⟩ = some (.slice An1 ns1.length cn1) ∧ (w5.alloc (.cells (valBlk k2 n2 s2 An2 ns2 cn2 Ai2 is2 ci2) 30)).cell? ⟨w3.heap.size, 4, none⟩ = some (.slice Ai1 is1.length ci1) := ⟨(hP5.alloc _).cell 0, (hP5.alloc _).cell 1, (hP5.alloc _).cell 2, (hP5.alloc _).cell 3, (hP5.alloc _).cell 4⟩
  have HW6 := Lib.hid hW6
  have HEQ : Hid ((LV.mk k1 n1 s1 An1 ns1 cn1 Ai1 is1 ci1).j = (LV.mk k2 n2 s2 An2 ns2 cn2 Ai2 is2 ci2).j) := Lib.hid (HXJ.out.trans HYJ.out.symm)
  clear hW6 hy hx5 hx4
  have hbb : (X.isSome == X.isSome) = true := by simp
  go_wp2_with fail
  rw [← HW6.out]
  refine HSM.out.mono ?_
  rintro e w7 ⟨⟨bb, rfl, hb⟩, hb7⟩
  have hbt := hb.2 HEQ.out
  subst hbt
  clear hb
  go_wp2
  go_ret
  exact ⟨rfl, hB0.trans ((hB6.trans (hb7.mono hB6.size)).mono hB0.size)⟩
end Go.Proofs.YtkjjafijmpacpaaDoor
