/-
  PathPuts: its walk.
-/
import Derived.Test.YtkjjafijmpacpaaDoorWp
import Derived.Test.YtkjjafijmpacpaaDoorWq
set_option linter.unusedVariables false
namespace Go.Proofs.YtkjjafijmpacpaaDoor
open Go.RowKit

set_option maxRecDepth 8000 in
set_option maxHeartbeats 8000000 in
theorem puts_walk (v : LV) (s0 : ByteArray) (x : LV) (w : World) (hT : Tabs w) (hv : v.At w) (hx : x.At w) :
    Calls Tryd.prog 5 #[v.val, .string s0, x.val] w fun e w' => e = .returned (.bool true) ∧ Below w.heap.size w w' := by
  obtain ⟨k, n, s, An, ns, cn, Ai, is, ci⟩ := v
  obtain ⟨k2, n2, s2, An2, ns2, cn2, Ai2, is2, ci2⟩ := x
  obtain ⟨W, hW⟩ : ∃ W, W = (w.alloc (.cells (valBlk k n s An ns cn Ai is ci) 30)).alloc (.cells (valBlk k2 n2 s2 An2 ns2 cn2 Ai2 is2 ci2) 30) := ⟨_, rfl⟩
  have hB0 : Below w.heap.size w W := by rw [hW]; exact ((Below.refl _ _).alloc (Nat.le_refl _) _).alloc (by simp) _
  have hF0 : Blk W w.heap.size 30 (valBlk k n s An ns cn Ai is ci) := by rw [hW]; exact (Blk.new w _ _).alloc _
  have hG0 : Blk W (w.heap.size + 1) 30 (valBlk k2 n2 s2 An2 ns2 cn2 Ai2 is2 ci2) := by rw [hW]; exact Blk.second w _ _ _
  have hvW := hv.below hB0 _
  have hxW := hx.below hB0 _
  have hTW := hT.below hB0
  have HA : Hid (∀ w1, Below W.heap.size W w1 → Calls Tryd.prog 8 #[] w1 fun e w' => e = .returned (.bool true) ∧ Below w1.heap.size w1 w') := Lib.hid fun w1 hb => awake_any w1 (hTW.below hb)
  have HFEW : Hid (∀ w1, Below W.heap.size W w1 → Calls Tryd.prog 11 #[.agg #[.int .i64 k, .int .i64 n, .string s, .slice An ns.length cn, .slice Ai is.length ci]] w1 fun e w' => BoolRes e ∧ Below w1.heap.size w1 w') := Lib.hid fun w1 hb => few_any _ (LV.mk k n s An ns cn Ai is ci) w1 (Nat.lt_succ_self _) (hvW.below hb _)
  have HFEX : Hid (∀ w1, Below W.heap.size W w1 → Calls Tryd.prog 11 #[.agg #[.int .i64 k2, .int .i64 n2, .string s2, .slice An2 ns2.length cn2, .slice Ai2 is2.length ci2]] w1 fun e w' => BoolRes e ∧ Below w1.heap.size w1 w') := Lib.hid fun w1 hb => few_any _ (LV.mk k2 n2 s2 An2 ns2 cn2 Ai2 is2 ci2) w1 (Nat.lt_succ_self _) (hxW.below hb _)
  obtain ⟨X, hX⟩ : ∃ X, putX (LV.mk k n s An ns cn Ai is ci).j s0 (LV.mk k2 n2 s2 An2 ns2 cn2 Ai2 is2 ci2).j = X := ⟨_, rfl⟩
  have HG1 : Hid (s0.size ≤ 2000 → ∀ w1, Below W.heap.size W w1 → Calls Tryd.prog 15 #[.agg #[.int .i64 k, .int .i64 n, .string s, .slice An ns.length cn, .slice Ai is.length ci], .string s0, .agg #[.int .i64 k2, .int .i64 n2, .string s2, .slice An2 ns2.length cn2, .slice Ai2 is2.length ci2]] w1 fun e w' => PutsRes X e w' ∧ Below w1.heap.size w1 w') := Lib.hid fun h w1 hb => by rw [← hX]; exact Put_any (LV.mk k n s An ns cn Ai is ci) (LV.mk k2 n2 s2 An2 ns2 cn2 Ai2 is2 ci2) s0 w1 (hvW.below hb _) (hxW.below hb _) h (hTW.below hb)
  have HG2 : Hid (s0.size ≤ 2000 → ∀ w1, Below W.heap.size W w1 → Calls Tryd.prog 16 #[.agg #[.int .i64 k, .int .i64 n, .string s, .slice An ns.length cn, .slice Ai is.length ci], .string s0, .agg #[.int .i64 k2, .int .i64 n2, .string s2, .slice An2 ns2.length cn2, .slice Ai2 is2.length ci2]] w1 fun e w' => PutsRes X e w' ∧ Below w1.heap.size w1 w') := Lib.hid fun h w1 hb => by rw [← hX]; exact rPut_any (LV.mk k n s An ns cn Ai is ci) (LV.mk k2 n2 s2 An2 ns2 cn2 Ai2 is2 ci2) s0 w1 (hvW.below hb _) (hxW.below hb _) h (hTW.below hb)
  have HW := Lib.hid hW
  clear hW hv hx hT hvW hxW hTW hX
  obtain ⟨XE, XJ⟩ := X
  show Calls Tryd.prog 5 #[.agg (valBlk k n s An ns cn Ai is ci), .string s0, .agg (valBlk k2 n2 s2 An2 ns2 cn2 Ai2 is2 ci2)] w _
  go_enter Tryd.func5, Tryd.ntmps5
  go_wp2_with fail
  rw [← HW.out]
  go_wp2_with fail
  (with_reducible refine (HA.out W (Below.refl _ _)).mono ?_)
  rintro e w1 ⟨rfl, hb1⟩
  have hB1 := hb1
  have hF1 := hF0.below hb1 hF0.lt
  have hG1 := hG0.below hb1 hG0.lt
  clear hF0 hG0
  obtain ⟨c0, c1, c2, c3, c4⟩ : w1.cell? ⟨w.heap.size, 0, none⟩ = some (.int .i64 k) ∧ w1.cell? ⟨w.heap.size, 1, none⟩ = some (.int .i64 n) ∧ w1.cell? ⟨w.heap.size, 2, none⟩ = some (.string s) ∧ w1.cell? ⟨w.heap.size, 3, none⟩ = some (.slice An ns.length cn) ∧ w1.cell? ⟨w.heap.size, 4, none⟩ = some (.slice Ai is.length ci) := ⟨hF1.cell 0, hF1.cell 1, hF1.cell 2, hF1.cell 3, hF1.cell 4⟩
  go_wp2_with fail
  (with_reducible refine (HFEW.out w1 hB1).mono ?_)
  rintro e w2 ⟨⟨bf, rfl⟩, hb2⟩
  clear c0 c1 c2 c3 c4
  have hB2 := hB1.trans (hb2.mono hB1.size)
  have hF2 := hF1.below hb2 hF1.lt
  have hG2 := hG1.below hb2 hG1.lt
  clear hF1 hG1
  cases bf with
  | false =>
    go_wp2_with fail
    refine (HA.out w2 hB2).mono ?_
    rintro e wz ⟨rfl, hbz⟩
    go_wp2
    go_ret
    exact ⟨rfl, hB0.trans ((hB2.trans (hbz.mono hB2.size)).mono hB0.size)⟩
  | true =>
  obtain ⟨c0, c1, c2, c3, c4⟩ : w2.cell? ⟨w.heap.size + 1, 0, none⟩ = some (.int .i64 k2) ∧ w2.cell? ⟨w.heap.size + 1, 1, none⟩ = some (.int .i64 n2) ∧ w2.cell? ⟨w.heap.size + 1, 2, none⟩ = some (.string s2) ∧ w2.cell? ⟨w.heap.size + 1, 3, none⟩ = some (.slice An2 ns2.length cn2) ∧ w2.cell? ⟨w.heap.size + 1, 4, none⟩ = some (.slice Ai2 is2.length ci2) := ⟨hG2.cell 0, hG2.cell 1, hG2.cell 2, hG2.cell 3, hG2.cell 4⟩
  go_wp2_with fail
  (with_reducible refine (HFEX.out w2 hB2).mono ?_)
  rintro e w3 ⟨⟨bf, rfl⟩, hb3⟩
  clear c0 c1 c2 c3 c4
  have hB3 := hB2.trans (hb3.mono hB2.size)
  have hF3 := hF2.below hb3 hF2.lt
  have hG3 := hG2.below hb3 hG2.lt
  clear hF2 hG2
  cases bf with
  | false =>
    go_wp2_with fail
    refine (HA.out w3 hB3).mono ?_
    rintro e wz ⟨rfl, hbz⟩
    go_wp2
    go_ret
    exact ⟨rfl, hB0.trans ((hB3.trans (hbz.mono hB3.size)).mono hB0.size)⟩
  | true =>
  by_cases hs : 2000 < s0.size
  · have hsI : (2000 : Int) < (s0.size : Int) := by omega
    go_wp2_with fail
    refine (HA.out w3 hB3).mono ?_
    rintro e wz ⟨rfl, hbz⟩
    go_wp2
    go_ret
    exact ⟨rfl, hB0.trans ((hB3.trans (hbz.mono hB3.size)).mono hB0.size)⟩
  have hsI : ¬ (2000 : Int) < (s0.size : Int) := by omega
  have HC1 := Lib.hid (HG1.out (by omega))
  have HC2 := Lib.hid (HG2.out (by omega))
  clear HG1 HG2
  obtain ⟨c0, c1, c2, c3, c4⟩ : w3.cell? ⟨w.heap.size, 0, none⟩ = some (.int .i64 k) ∧ w3.cell? ⟨w.heap.size, 1, none⟩ = some (.int .i64 n) ∧ w3.cell? ⟨w.heap.size, 2, none⟩ = some (.string s) ∧ w3.cell? ⟨w.heap.size, 3, none⟩ = some (.slice An ns.length cn) ∧ w3.cell? ⟨w.heap.size, 4, none⟩ = some (.slice Ai is.length ci) := ⟨hF3.cell 0, hF3.cell 1, hF3.cell 2, hF3.cell 3, hF3.cell 4⟩
  obtain ⟨d0, d1, d2, d3, d4⟩ : w3.cell? ⟨w.heap.size + 1, 0, none⟩ = some (.int .i64 k2) ∧ w3.cell? ⟨w.heap.size + 1, 1, none⟩ = some (.int .i64 n2) ∧ w3.cell? ⟨w.heap.size + 1, 2, none⟩ = some (.string s2) ∧ w3.cell? ⟨w.heap.size + 1, 3, none⟩ = some (.slice An2 ns2.length cn2) ∧ w3.cell? ⟨w.heap.size + 1, 4, none⟩ = some (.slice Ai2 is2.length ci2) := ⟨hG3.cell 0, hG3.cell 1, hG3.cell 2, hG3.cell 3, hG3.cell 4⟩
  go_wp2_with fail
  (with_reducible refine (HC1.out w3 hB3).mono ?_)
  rintro e w4 ⟨⟨z, he, hz3, hzj3⟩, hb4⟩
  clear c0 c1 c2 c3 c4 d0 d1 d2 d3 d4
  have hB4 := hB3.trans (hb4.mono hB3.size)
  have hF4 := hF3.below hb4 hF3.lt
  have hG4 := hG3.below hb4 hG3.lt
  clear hF3 hG3
  obtain ⟨k3, n3, s3, An3, ns3, cn3, Ai3, is3, ci3⟩ := z
  have he' : e = .returned (.tuple #[.agg #[.int .i64 k3, .int .i64 n3, .string s3, .slice An3 ns3.length cn3, .slice Ai3 is3.length ci3], .int .i64 XE]) := he
  clear he
  subst he'
  have HZJ3 := Lib.hid hzj3
  have HZ3 := Lib.hid hz3
  clear hzj3 hz3
  go_upto_region 4 with fail
  obtain ⟨w5, hw5⟩ : ∃ w5, w5 = w4.alloc (.cells #[.int .i64 k3, .int .i64 n3, .string s3, .slice An3 ns3.length cn3, .slice Ai3 is3.length ci3] 30) := ⟨_, rfl⟩
  rw [← hw5]
  have hb5 : Below w4.heap.size w4 w5 := by rw [hw5]; exact (Below.refl _ _).alloc (Nat.le_refl _) _
  have hP5n : Blk w5 w4.heap.size 30 #[.int .i64 k3, .int .i64 n3, .string s3, .slice An3 ns3.length cn3, .slice Ai3 is3.length ci3] := by rw [hw5]; exact Blk.new w4 _ _
  clear hw5
  have hB5 := hB4.trans (hb5.mono hB4.size)
  have hF5 := hF4.below hb5 hF4.lt
  have hG5 := hG4.below hb5 hG4.lt
  clear hF4 hG4
  have hP5 := hP5n
  clear hP5n
  obtain ⟨gP, hgP⟩ : ∃ g, w4.heap.size = g := ⟨_, rfl⟩
  rw [hgP] at hP5 ⊢
  clear hgP
  have HAT3 : Hid (∀ w', Below w5.heap.size w5 w' → (LV.mk k3 n3 s3 An3 ns3 cn3 Ai3 is3 ci3).At w') := Lib.hid fun w' hb => (HZ3.out.below hb5 _).below hb _
  clear HZ3
  obtain ⟨c0, c1, c2, c3, c4⟩ : w5.cell? ⟨w.heap.size, 0, none⟩ = some (.int .i64 k) ∧ w5.cell? ⟨w.heap.size, 1, none⟩ = some (.int .i64 n) ∧ w5.cell? ⟨w.heap.size, 2, none⟩ = some (.string s) ∧ w5.cell? ⟨w.heap.size, 3, none⟩ = some (.slice An ns.length cn) ∧ w5.cell? ⟨w.heap.size, 4, none⟩ = some (.slice Ai is.length ci) := ⟨hF5.cell 0, hF5.cell 1, hF5.cell 2, hF5.cell 3, hF5.cell 4⟩
  obtain ⟨d0, d1, d2, d3, d4⟩ : w5.cell? ⟨w.heap.size + 1, 0, none⟩ = some (.int .i64 k2) ∧ w5.cell? ⟨w.heap.size + 1, 1, none⟩ = some (.int .i64 n2) ∧ w5.cell? ⟨w.heap.size + 1, 2, none⟩ = some (.string s2) ∧ w5.cell? ⟨w.heap.size + 1, 3, none⟩ = some (.slice An2 ns2.length cn2) ∧ w5.cell? ⟨w.heap.size + 1, 4, none⟩ = some (.slice Ai2 is2.length ci2) := ⟨hG5.cell 0, hG5.cell 1, hG5.cell 2, hG5.cell 3, hG5.cell 4⟩
  go_wp2_with fail
  (with_reducible refine (HC2.out w5 hB5).mono ?_)
  rintro e w6 ⟨⟨z, he, hz4, hzj4⟩, hb6⟩
  clear c0 c1 c2 c3 c4 d0 d1 d2 d3 d4
  have hB6 := hB5.trans (hb6.mono hB5.size)
  have hF6 := hF5.below hb6 hF5.lt
  have hG6 := hG5.below hb6 hG5.lt
  have hP6 := hP5.below hb6 hP5.lt
  clear hF5 hG5 hP5
  obtain ⟨k4, n4, s4, An4, ns4, cn4, Ai4, is4, ci4⟩ := z
  have he' : e = .returned (.tuple #[.agg #[.int .i64 k4, .int .i64 n4, .string s4, .slice An4 ns4.length cn4, .slice Ai4 is4.length ci4], .int .i64 XE]) := he
  clear he
  subst he'
  have HZJ4 := Lib.hid hzj4
  have HZ4 := Lib.hid hz4
  clear hzj4 hz4
  go_upto_region 5 with fail
  obtain ⟨w7, hw7⟩ : ∃ w7, w7 = w6.alloc (.cells #[.int .i64 k4, .int .i64 n4, .string s4, .slice An4 ns4.length cn4, .slice Ai4 is4.length ci4] 30) := ⟨_, rfl⟩
  rw [← hw7]
  have hb7 : Below w6.heap.size w6 w7 := by rw [hw7]; exact (Below.refl _ _).alloc (Nat.le_refl _) _
  have hQ7n : Blk w7 w6.heap.size 30 #[.int .i64 k4, .int .i64 n4, .string s4, .slice An4 ns4.length cn4, .slice Ai4 is4.length ci4] := by rw [hw7]; exact Blk.new w6 _ _
  clear hw7
  have hB7 := hB6.trans (hb7.mono hB6.size)
  have hF7 := hF6.below hb7 hF6.lt
  have hG7 := hG6.below hb7 hG6.lt
  have hP7 := hP6.below hb7 hP6.lt
  clear hF6 hG6 hP6
  have hQ7 := hQ7n
  clear hQ7n
  obtain ⟨gQ, hgQ⟩ : ∃ g, w6.heap.size = g := ⟨_, rfl⟩
  rw [hgQ] at hQ7 ⊢
  clear hgQ
  have HAT4 : Hid (∀ w', Below w7.heap.size w7 w' → (LV.mk k4 n4 s4 An4 ns4 cn4 Ai4 is4 ci4).At w') := Lib.hid fun w' hb => (HZ4.out.below hb7 _).below hb _
  clear HZ4
  have HEQ : Hid ((LV.mk k3 n3 s3 An3 ns3 cn3 Ai3 is3 ci3).j = (LV.mk k4 n4 s4 An4 ns4 cn4 Ai4 is4 ci4).j) := Lib.hid (HZJ3.out.trans HZJ4.out.symm)
  have hxe : (XE == XE) = true := by simp
  have HSM : Hid (Calls Tryd.prog 14 #[.agg #[.int .i64 k3, .int .i64 n3, .string s3, .slice An3 ns3.length cn3, .slice Ai3 is3.length ci3], .agg #[.int .i64 k4, .int .i64 n4, .string s4, .slice An4 ns4.length cn4, .slice Ai4 is4.length ci4]] w7 fun e w' => BoolIs ((LV.mk k3 n3 s3 An3 ns3 cn3 Ai3 is3 ci3).j = (LV.mk k4 n4 s4 An4 ns4 cn4 Ai4 is4 ci4).j) e ∧ Below w7.heap.size w7 w') := Lib.hid (same_any _ (LV.mk k3 n3 s3 An3 ns3 cn3 Ai3 is3 ci3) (LV.mk k4 n4 s4 An4 ns4 cn4 Ai4 is4 ci4) w7 (Nat.lt_succ_self _) (HAT3.out _ (hb6.trans (hb7.mono hb6.size))) (HAT4.out _ (Below.refl _ _)))
  obtain ⟨c0, c1, c2, c3, c4⟩ : w7.cell? ⟨gP, 0, none⟩ = some (.int .i64 k3) ∧ w7.cell? ⟨gP, 1, none⟩ = some (.int .i64 n3) ∧ w7.cell? ⟨gP, 2, none⟩ = some (.string s3) ∧ w7.cell? ⟨gP, 3, none⟩ = some (.slice An3 ns3.length cn3) ∧ w7.cell? ⟨gP, 4, none⟩ = some (.slice Ai3 is3.length ci3) := ⟨hP7.cell 0, hP7.cell 1, hP7.cell 2, hP7.cell 3, hP7.cell 4⟩
  obtain ⟨d0, d1, d2, d3, d4⟩ : w7.cell? ⟨gQ, 0, none⟩ = some (.int .i64 k4) ∧ w7.cell? ⟨gQ, 1, none⟩ = some (.int .i64 n4) ∧ w7.cell? ⟨gQ, 2, none⟩ = some (.string s4) ∧ w7.cell? ⟨gQ, 3, none⟩ = some (.slice An4 ns4.length cn4) ∧ w7.cell? ⟨gQ, 4, none⟩ = some (.slice Ai4 is4.length ci4) := ⟨hQ7.cell 0, hQ7.cell 1, hQ7.cell 2, hQ7.cell 3, hQ7.cell 4⟩
  go_wp2_with fail
  (with_reducible refine (HSM.out).mono ?_)
  rintro e w8 ⟨⟨bb, rfl, hbb⟩, hb8⟩
  clear c0 c1 c2 c3 c4 d0 d1 d2 d3 d4
  have hB8 := hB7.trans (hb8.mono hB7.size)
  have hF8 := hF7.below hb8 hF7.lt
  have hG8 := hG7.below hb8 hG7.lt
  have hP8 := hP7.below hb8 hP7.lt
  have hQ8 := hQ7.below hb8 hQ7.lt
  clear hF7 hG7 hP7 hQ7
  have hbt := hbb.2 HEQ.out
  subst hbt
  clear hbb
  go_wp2
  go_ret
  exact ⟨rfl, hB0.trans (hB8.mono hB0.size)⟩
end Go.Proofs.YtkjjafijmpacpaaDoor
