/-
  PathBack: its walk.
-/
import Derived.Test.YtkjjafijmpacpaaDoorWp
import Derived.Test.YtkjjafijmpacpaaDoorWs
set_option linter.unusedVariables false
namespace Go.Proofs.YtkjjafijmpacpaaDoor
open Go.RowKit

set_option maxRecDepth 8000 in
set_option maxHeartbeats 16000000 in
theorem back_walk (v : LV) (s0 : ByteArray) (x : LV) (w : World) (hT : Tabs w) (hv : v.At w) (hx : x.At w) :
    Calls Tryd.prog 6 #[v.val, .string s0, x.val] w fun e w' => e = .returned (.bool true) ∧ Below w.heap.size w w' := by
  obtain ⟨k, n, s, An, ns, cn, Ai, is, ci⟩ := v
  obtain ⟨k2, n2, s2, An2, ns2, cn2, Ai2, is2, ci2⟩ := x
  obtain ⟨W, hW⟩ : ∃ W, W = (w.alloc (.cells (valBlk k n s An ns cn Ai is ci) 30)).alloc (.cells (valBlk k2 n2 s2 An2 ns2 cn2 Ai2 is2 ci2) 30) := ⟨_, rfl⟩
  have hB0 : Below w.heap.size w W := by rw [hW]; exact ((Below.refl _ _).alloc (Nat.le_refl _) _).alloc (by simp) _
  have hF0 : Blk W w.heap.size 30 (valBlk k n s An ns cn Ai is ci) := by rw [hW]; exact (Blk.new w _ _).alloc _
  have hG0 : Blk W (w.heap.size + 1) 30 (valBlk k2 n2 s2 An2 ns2 cn2 Ai2 is2 ci2) := by rw [hW]; exact Blk.second w _ _ _
  have hvW := hv.below hB0 _
  have hxW := hx.below hB0 _
  have hTW := hT.below hB0
  have HA : Hid (∀ w1, Below W.heap.size W w1 → Calls Tryd.prog 8 #[] w1 fun e w' => e = .returned (.bool true) ∧ Below w1.heap.size w1 w') := Lib.hid fun w1 hb => awake_any w1 (hTW.below hb)
  have HFEW : Hid (∀ w1, Below W.heap.size W w1 → Calls Tryd.prog 11 #[.agg #[.int .i64 k, .int .i64 n, .string s, .slice An ns.length cn, .slice Ai is.length ci]] w1 fun e w' => BoolRes e ∧ Below w1.heap.size w1 w') := Lib.hid fun w1 hb => few_any _ (LV.mk k n s An ns cn Ai is ci) w1 (Nat.lt_succ_self _) (hvW.below hb _)
  have HFEX : Hid (∀ w1, Below W.heap.size W w1 → Calls Tryd.prog 11 #[.agg #[.int .i64 k2, .int .i64 n2, .string s2, .slice An2 ns2.length cn2, .slice Ai2 is2.length ci2]] w1 fun e w' => BoolRes e ∧ Below w1.heap.size w1 w') := Lib.hid fun w1 hb => few_any _ (LV.mk k2 n2 s2 An2 ns2 cn2 Ai2 is2 ci2) w1 (Nat.lt_succ_self _) (hxW.below hb _)
  have HTW := Lib.hid hTW
  have HVW := Lib.hid hvW
  have HXW := Lib.hid hxW
  have HW := Lib.hid hW
  clear hW hv hx hT hvW hxW hTW
  show Calls Tryd.prog 6 #[.agg (valBlk k n s An ns cn Ai is ci), .string s0, .agg (valBlk k2 n2 s2 An2 ns2 cn2 Ai2 is2 ci2)] w _
  go_enter Tryd.func6, Tryd.ntmps6
  go_wp2_with fail
  rw [← HW.out]
  go_wp2_with fail
  (with_reducible refine (HA.out W (Below.refl _ _)).mono ?_)
  rintro e w1 ⟨rfl, hb1⟩
  have hB1 := hb1
  have hF1 := hF0.below hb1 hF0.lt
  have hG1 := hG0.below hb1 hG0.lt
  clear hF0 hG0
  obtain ⟨c0, c1, c2, c3, c4⟩ : w1.cell? ⟨w.heap.size, 0, none⟩ = some (.int .i64 k) ∧ w1.cell? ⟨w.heap.size, 1, none⟩ = some (.int .i64 n) ∧ w1.cell? ⟨w.heap.size, 2, none⟩ = some (.string s) ∧ w1.cell? ⟨w.heap.size, 3, none⟩ = some (.slice An ns.length cn) ∧ w1.cell? ⟨w.heap.size, 4, none⟩ = some (.slice Ai is.length ci) := ⟨hF1.cell 0, hF1.cell 1, hF1.cell 2, hF1.cell 3, hF1.cell 4⟩
  go_wp2_with fail
  (with_reducible refine (HFEW.out w1 hB1).mono ?_)
  rintro e w2 ⟨⟨bf, rfl⟩, hb2⟩
  clear c0 c1 c2 c3 c4
  have hB2 := hB1.trans (hb2.mono hB1.size)
  have hF2 := hF1.below hb2 hF1.lt
  have hG2 := hG1.below hb2 hG1.lt
  clear hF1 hG1
  cases bf with
  | false =>
    go_wp2_with fail
    refine (HA.out w2 hB2).mono ?_
    rintro e wz ⟨rfl, hbz⟩
    go_wp2
    go_ret
    exact ⟨rfl, hB0.trans ((hB2.trans (hbz.mono hB2.size)).mono hB0.size)⟩
  | true =>
  obtain ⟨c0, c1, c2, c3, c4⟩ : w2.cell? ⟨w.heap.size + 1, 0, none⟩ = some (.int .i64 k2) ∧ w2.cell? ⟨w.heap.size + 1, 1, none⟩ = some (.int .i64 n2) ∧ w2.cell? ⟨w.heap.size + 1, 2, none⟩ = some (.string s2) ∧ w2.cell? ⟨w.heap.size + 1, 3, none⟩ = some (.slice An2 ns2.length cn2) ∧ w2.cell? ⟨w.heap.size + 1, 4, none⟩ = some (.slice Ai2 is2.length ci2) := ⟨hG2.cell 0, hG2.cell 1, hG2.cell 2, hG2.cell 3, hG2.cell 4⟩
  go_wp2_with fail
  (with_reducible refine (HFEX.out w2 hB2).mono ?_)
  rintro e w3 ⟨⟨bf, rfl⟩, hb3⟩
  clear c0 c1 c2 c3 c4
  have hB3 := hB2.trans (hb3.mono hB2.size)
  have hF3 := hF2.below hb3 hF2.lt
  have hG3 := hG2.below hb3 hG2.lt
  clear hF2 hG2
  cases bf with
  | false =>
    go_wp2_with fail
    refine (HA.out w3 hB3).mono ?_
    rintro e wz ⟨rfl, hbz⟩
    go_wp2
    go_ret
    exact ⟨rfl, hB0.trans ((hB3.trans (hbz.mono hB3.size)).mono hB0.size)⟩
  | true =>
  by_cases hs : 2000 < s0.size
  · have hsI : (2000 : Int) < (s0.size : Int) := by omega
    go_wp2_with fail
    refine (HA.out w3 hB3).mono ?_
    rintro e wz ⟨rfl, hbz⟩
    go_wp2
    go_ret
    exact ⟨rfl, hB0.trans ((hB3.trans (hbz.mono hB3.size)).mono hB0.size)⟩
  have hsI : ¬ (2000 : Int) < (s0.size : Int) := by omega
  have HS0 : Hid (s0.size ≤ 2000) := Lib.hid (by omega)
  obtain ⟨X, hX⟩ : ∃ X, putX (LV.mk k n s An ns cn Ai is ci).j s0 (LV.mk k2 n2 s2 An2 ns2 cn2 Ai2 is2 ci2).j = X := ⟨_, rfl⟩
  have HPUT : Hid (∀ w1, Below W.heap.size W w1 → Calls Tryd.prog 15 #[.agg #[.int .i64 k, .int .i64 n, .string s, .slice An ns.length cn, .slice Ai is.length ci], .string s0, .agg #[.int .i64 k2, .int .i64 n2, .string s2, .slice An2 ns2.length cn2, .slice Ai2 is2.length ci2]] w1 fun e w' => PutsRes X e w' ∧ Below w1.heap.size w1 w') := Lib.hid fun w1 hb => by rw [← hX]; exact Put_any (LV.mk k n s An ns cn Ai is ci) (LV.mk k2 n2 s2 An2 ns2 cn2 Ai2 is2 ci2) s0 w1 (HVW.out.below hb _) (HXW.out.below hb _) HS0.out (HTW.out.below hb)
  have HC := Lib.hid (putX_cases (LV.mk k n s An ns cn Ai is ci).j s0 (LV.mk k2 n2 s2 An2 ns2 cn2 Ai2 is2 ci2).j)
  have HBG : Hid (X.1 = 0 → getX X.2 s0 = some (LV.mk k2 n2 s2 An2 ns2 cn2 Ai2 is2 ci2).j ∧ FormedP X.2 6) := Lib.hid fun h => by rw [← hX] at h ⊢; exact back_got h
  have HBW : Hid (X.1 = 0 → ∀ was, getX (LV.mk k n s An ns cn Ai is ci).j s0 = some was → putX X.2 s0 was = (0, (LV.mk k n s An ns cn Ai is ci).j)) := Lib.hid fun h was hg => by rw [← hX] at h ⊢; exact back_was h hg
  rw [hX] at HC
  clear hX
  obtain ⟨XE, XJ⟩ := X
  obtain ⟨c0, c1, c2, c3, c4⟩ : w3.cell? ⟨w.heap.size, 0, none⟩ = some (.int .i64 k) ∧ w3.cell? ⟨w.heap.size, 1, none⟩ = some (.int .i64 n) ∧ w3.cell? ⟨w.heap.size, 2, none⟩ = some (.string s) ∧ w3.cell? ⟨w.heap.size, 3, none⟩ = some (.slice An ns.length cn) ∧ w3.cell? ⟨w.heap.size, 4, none⟩ = some (.slice Ai is.length ci) := ⟨hF3.cell 0, hF3.cell 1, hF3.cell 2, hF3.cell 3, hF3.cell 4⟩
  obtain ⟨d0, d1, d2, d3, d4⟩ : w3.cell? ⟨w.heap.size + 1, 0, none⟩ = some (.int .i64 k2) ∧ w3.cell? ⟨w.heap.size + 1, 1, none⟩ = some (.int .i64 n2) ∧ w3.cell? ⟨w.heap.size + 1, 2, none⟩ = some (.string s2) ∧ w3.cell? ⟨w.heap.size + 1, 3, none⟩ = some (.slice An2 ns2.length cn2) ∧ w3.cell? ⟨w.heap.size + 1, 4, none⟩ = some (.slice Ai2 is2.length ci2) := ⟨hG3.cell 0, hG3.cell 1, hG3.cell 2, hG3.cell 3, hG3.cell 4⟩
  go_wp2_with fail
  (with_reducible refine (HPUT.out w3 hB3).mono ?_)
  rintro e w4 ⟨⟨z, he, hz3, hzj3⟩, hb4⟩
  clear c0 c1 c2 c3 c4 d0 d1 d2 d3 d4
  have hB4 := hB3.trans (hb4.mono hB3.size)
  have hF4 := hF3.below hb4 hF3.lt
  have hG4 := hG3.below hb4 hG3.lt
  clear hF3 hG3
  obtain ⟨k3, n3, s3, An3, ns3, cn3, Ai3, is3, ci3⟩ := z
  have he' : e = .returned (.tuple #[.agg #[.int .i64 k3, .int .i64 n3, .string s3, .slice An3 ns3.length cn3, .slice Ai3 is3.length ci3], .int .i64 XE]) := he
  clear he
  subst he'
  have HZJ3 : Hid ((LV.mk k3 n3 s3 An3 ns3 cn3 Ai3 is3 ci3).j = XJ) := Lib.hid hzj3
  have HZ3 := Lib.hid hz3
  clear hzj3 hz3
  go_upto_region 4 with fail
  obtain ⟨w5, hw5⟩ : ∃ w5, w5 = w4.alloc (.cells #[.int .i64 k3, .int .i64 n3, .string s3, .slice An3 ns3.length cn3, .slice Ai3 is3.length ci3] 30) := ⟨_, rfl⟩
  rw [← hw5]
  have hb5 : Below w4.heap.size w4 w5 := by rw [hw5]; exact (Below.refl _ _).alloc (Nat.le_refl _) _
  have hP5n : Blk w5 w4.heap.size 30 #[.int .i64 k3, .int .i64 n3, .string s3, .slice An3 ns3.length cn3, .slice Ai3 is3.length ci3] := by rw [hw5]; exact Blk.new w4 _ _
  clear hw5
  have hB5 := hB4.trans (hb5.mono hB4.size)
  have hF5 := hF4.below hb5 hF4.lt
  have hG5 := hG4.below hb5 hG4.lt
  clear hF4 hG4
  have hP5 := hP5n
  clear hP5n
  obtain ⟨gP, hgP⟩ : ∃ g, w4.heap.size = g := ⟨_, rfl⟩
  rw [hgP] at hP5 ⊢
  clear hgP
  have HAT3 : Hid (∀ w', Below w5.heap.size w5 w' → (LV.mk k3 n3 s3 An3 ns3 cn3 Ai3 is3 ci3).At w') := Lib.hid fun w' hb => (HZ3.out.below hb5 _).below hb _
  clear HZ3
  by_cases hxe : XE = 0
  rotate_left
  · have hxeI : (XE != 0) = true := by rw [bne_iff_ne]; exact hxe
    have HE : Hid (XJ = zeroJ) := Lib.hid (by rcases HC.out with h | ⟨l, h⟩; exact h.2; exact absurd h.2.2.2.2.2.2 hxe)
    have HSM : Hid (Calls Tryd.prog 14 #[.agg #[.int .i64 k3, .int .i64 n3, .string s3, .slice An3 ns3.length cn3, .slice Ai3 is3.length ci3], .agg #[.int .i64 0, .int .i64 0, .string ⟨#[]⟩, .slice none 0 0, .slice none 0 0]] w5 fun e w' => BoolIs ((LV.mk k3 n3 s3 An3 ns3 cn3 Ai3 is3 ci3).j = zeroV.j) e ∧ Below w5.heap.size w5 w') := Lib.hid (same_any _ (LV.mk k3 n3 s3 An3 ns3 cn3 Ai3 is3 ci3) zeroV w5 (Nat.lt_succ_self _) (HAT3.out _ (Below.refl _ _)) (zero_at _))
    clear hxe
    obtain ⟨c0, c1, c2, c3, c4⟩ : w5.cell? ⟨gP, 0, none⟩ = some (.int .i64 k3) ∧ w5.cell? ⟨gP, 1, none⟩ = some (.int .i64 n3) ∧ w5.cell? ⟨gP, 2, none⟩ = some (.string s3) ∧ w5.cell? ⟨gP, 3, none⟩ = some (.slice An3 ns3.length cn3) ∧ w5.cell? ⟨gP, 4, none⟩ = some (.slice Ai3 is3.length ci3) := ⟨hP5.cell 0, hP5.cell 1, hP5.cell 2, hP5.cell 3, hP5.cell 4⟩
    go_wp2_with fail
    (with_reducible refine (HSM.out).mono ?_)
    rintro e w6 ⟨⟨bb, rfl, hbb⟩, hb6⟩
    clear c0 c1 c2 c3 c4
    have hB6 := hB5.trans (hb6.mono hB5.size)
    have hF6 := hF5.below hb6 hF5.lt
    have hG6 := hG5.below hb6 hG5.lt
    have hP6 := hP5.below hb6 hP5.lt
    clear hF5 hG5 hP5
    have hbt := hbb.2 (HZJ3.out.trans (HE.out.trans (by rfl)))
    subst hbt
    clear hbb
    go_wp2
    go_ret
    exact ⟨rfl, hB0.trans (hB6.mono hB0.size)⟩
  subst hxe
  obtain ⟨hg, hfo⟩ := HBG.out rfl
  have HFO := Lib.hid hfo
  have HG := Lib.hid hg
  have HBW2 := Lib.hid (HBW.out rfl)
  clear hg hfo HBG HBW
  have HGET : Hid (∀ w1, Below w5.heap.size w5 w1 → Calls Tryd.prog 12 #[.agg #[.int .i64 k3, .int .i64 n3, .string s3, .slice An3 ns3.length cn3, .slice Ai3 is3.length ci3], .string s0] w1 fun e w' => GetRes (some (LV.mk k2 n2 s2 An2 ns2 cn2 Ai2 is2 ci2).j) e w' ∧ Below w1.heap.size w1 w') := Lib.hid fun w1 hb => by rw [← HG.out, ← HZJ3.out]; exact get_any (LV.mk k3 n3 s3 An3 ns3 cn3 Ai3 is3 ci3) s0 w1 (HAT3.out _ hb) HS0.out (HTW.out.below (hB5.trans (hb.mono hB5.size)))
  obtain ⟨c0, c1, c2, c3, c4⟩ : w5.cell? ⟨gP, 0, none⟩ = some (.int .i64 k3) ∧ w5.cell? ⟨gP, 1, none⟩ = some (.int .i64 n3) ∧ w5.cell? ⟨gP, 2, none⟩ = some (.string s3) ∧ w5.cell? ⟨gP, 3, none⟩ = some (.slice An3 ns3.length cn3) ∧ w5.cell? ⟨gP, 4, none⟩ = some (.slice Ai3 is3.length ci3) := ⟨hP5.cell 0, hP5.cell 1, hP5.cell 2, hP5.cell 3, hP5.cell 4⟩
  go_wp2_with fail
  (with_reducible refine (HGET.out w5 (Below.refl _ _)).mono ?_)
  rintro e w6 ⟨⟨z, he, hz4, hzj4⟩, hb6⟩
  clear c0 c1 c2 c3 c4
  have hB6 := hB5.trans (hb6.mono hB5.size)
  have hF6 := hF5.below hb6 hF5.lt
  have hG6 := hG5.below hb6 hG5.lt
  have hP6 := hP5.below hb6 hP5.lt
  clear hF5 hG5 hP5
  obtain ⟨k4, n4, s4, An4, ns4, cn4, Ai4, is4, ci4⟩ := z
  have he' : e = .returned (.tuple #[.agg #[.int .i64 k4, .int .i64 n4, .string s4, .slice An4 ns4.length cn4, .slice Ai4 is4.length ci4], .bool true]) := he
  clear he
  subst he'
  have HZJ4 : Hid ((LV.mk k4 n4 s4 An4 ns4 cn4 Ai4 is4 ci4).j = (LV.mk k2 n2 s2 An2 ns2 cn2 Ai2 is2 ci2).j) := Lib.hid hzj4
  have HZ4 := Lib.hid hz4
  clear hzj4 hz4 HGET
  go_upto_region 7 with fail
  obtain ⟨w7, hw7⟩ : ∃ w7, w7 = w6.alloc (.cells #[.int .i64 k4, .int .i64 n4, .string s4, .slice An4 ns4.length cn4, .slice Ai4 is4.length ci4] 30) := ⟨_, rfl⟩
  rw [← hw7]
  have hb7 : Below w6.heap.size w6 w7 := by rw [hw7]; exact (Below.refl _ _).alloc (Nat.le_refl _) _
  have hQ7n : Blk w7 w6.heap.size 30 #[.int .i64 k4, .int .i64 n4, .string s4, .slice An4 ns4.length cn4, .slice Ai4 is4.length ci4] := by rw [hw7]; exact Blk.new w6 _ _
  clear hw7
  have hB7 := hB6.trans (hb7.mono hB6.size)
  have hF7 := hF6.below hb7 hF6.lt
  have hG7 := hG6.below hb7 hG6.lt
  have hP7 := hP6.below hb7 hP6.lt
  clear hF6 hG6 hP6
  have hQ7 := hQ7n
  clear hQ7n
  obtain ⟨gQ, hgQ⟩ : ∃ g, w6.heap.size = g := ⟨_, rfl⟩
  rw [hgQ] at hQ7 ⊢
  clear hgQ
  have HAT4 : Hid (∀ w', Below w7.heap.size w7 w' → (LV.mk k4 n4 s4 An4 ns4 cn4 Ai4 is4 ci4).At w') := Lib.hid fun w' hb => (HZ4.out.below hb7 _).below hb _
  clear HZ4
  have HSM : Hid (Calls Tryd.prog 14 #[.agg #[.int .i64 k2, .int .i64 n2, .string s2, .slice An2 ns2.length cn2, .slice Ai2 is2.length ci2], .agg #[.int .i64 k4, .int .i64 n4, .string s4, .slice An4 ns4.length cn4, .slice Ai4 is4.length ci4]] w7 fun e w' => BoolIs ((LV.mk k2 n2 s2 An2 ns2 cn2 Ai2 is2 ci2).j = (LV.mk k4 n4 s4 An4 ns4 cn4 Ai4 is4 ci4).j) e ∧ Below w7.heap.size w7 w') := Lib.hid (same_any _ (LV.mk k2 n2 s2 An2 ns2 cn2 Ai2 is2 ci2) (LV.mk k4 n4 s4 An4 ns4 cn4 Ai4 is4 ci4) w7 (Nat.lt_succ_self _) (HXW.out.below hB7 _) (HAT4.out _ (Below.refl _ _)))
  obtain ⟨c0, c1, c2, c3, c4⟩ : w7.cell? ⟨w.heap.size + 1, 0, none⟩ = some (.int .i64 k2) ∧ w7.cell? ⟨w.heap.size + 1, 1, none⟩ = some (.int .i64 n2) ∧ w7.cell? ⟨w.heap.size + 1, 2, none⟩ = some (.string s2) ∧ w7.cell? ⟨w.heap.size + 1, 3, none⟩ = some (.slice An2 ns2.length cn2) ∧ w7.cell? ⟨w.heap.size + 1, 4, none⟩ = some (.slice Ai2 is2.length ci2) := ⟨hG7.cell 0, hG7.cell 1, hG7.cell 2, hG7.cell 3, hG7.cell 4⟩
  obtain ⟨d0, d1, d2, d3, d4⟩ : w7.cell? ⟨gQ, 0, none⟩ = some (.int .i64 k4) ∧ w7.cell? ⟨gQ, 1, none⟩ = some (.int .i64 n4) ∧ w7.cell? ⟨gQ, 2, none⟩ = some (.string s4) ∧ w7.cell? ⟨gQ, 3, none⟩ = some (.slice An4 ns4.length cn4) ∧ w7.cell? ⟨gQ, 4, none⟩ = some (.slice Ai4 is4.length ci4) := ⟨hQ7.cell 0, hQ7.cell 1, hQ7.cell 2, hQ7.cell 3, hQ7.cell 4⟩
  go_wp2_with fail
  (with_reducible refine (HSM.out).mono ?_)
  rintro e w8 ⟨⟨bb, rfl, hbb⟩, hb8⟩
  clear c0 c1 c2 c3 c4 d0 d1 d2 d3 d4
  have hB8 := hB7.trans (hb8.mono hB7.size)
  have hF8 := hF7.below hb8 hF7.lt
  have hG8 := hG7.below hb8 hG7.lt
  have hP8 := hP7.below hb8 hP7.lt
  have hQ8 := hQ7.below hb8 hQ7.lt
  clear hF7 hG7 hP7 hQ7
  have hbt := hbb.2 HZJ4.out.symm
  subst hbt
  clear hbb HSM
  have HFA : Hid (∀ w1, Below w8.heap.size w8 w1 → Calls Tryd.prog 17 #[.agg #[.int .i64 k3, .int .i64 n3, .string s3, .slice An3 ns3.length cn3, .slice Ai3 is3.length ci3]] w1 fun e w' => BoolIs (FormedP XJ 6) e ∧ Below w1.heap.size w1 w') := Lib.hid fun w1 hb => by rw [← HZJ3.out]; exact jformed_any (LV.mk k3 n3 s3 An3 ns3 cn3 Ai3 is3 ci3) w1 (HAT3.out _ ((hb6.trans (hb7.mono hb6.size)).trans (hb8.mono (hb6.trans (hb7.mono hb6.size)).size) |>.trans (hb.mono (Below.size ((hb6.trans (hb7.mono hb6.size)).trans (hb8.mono (hb6.trans (hb7.mono hb6.size)).size)))))) (HTW.out.below (hB8.trans (hb.mono hB8.size)))
  obtain ⟨c0, c1, c2, c3, c4⟩ : w8.cell? ⟨gP, 0, none⟩ = some (.int .i64 k3) ∧ w8.cell? ⟨gP, 1, none⟩ = some (.int .i64 n3) ∧ w8.cell? ⟨gP, 2, none⟩ = some (.string s3) ∧ w8.cell? ⟨gP, 3, none⟩ = some (.slice An3 ns3.length cn3) ∧ w8.cell? ⟨gP, 4, none⟩ = some (.slice Ai3 is3.length ci3) := ⟨hP8.cell 0, hP8.cell 1, hP8.cell 2, hP8.cell 3, hP8.cell 4⟩
  go_wp2_with fail
  (with_reducible refine (HFA.out w8 (Below.refl _ _)).mono ?_)
  rintro e w9 ⟨⟨bb, rfl, hbb⟩, hb9⟩
  clear c0 c1 c2 c3 c4
  have hB9 := hB8.trans (hb9.mono hB8.size)
  have hF9 := hF8.below hb9 hF8.lt
  have hG9 := hG8.below hb9 hG8.lt
  have hP9 := hP8.below hb9 hP8.lt
  have hQ9 := hQ8.below hb9 hQ8.lt
  clear hF8 hG8 hP8 hQ8
  have hbt := hbb.2 HFO.out
  subst hbt
  clear hbb HFA
  obtain ⟨Y, hY⟩ : ∃ Y, getX (LV.mk k n s An ns cn Ai is ci).j s0 = Y := ⟨_, rfl⟩
  have HGV : Hid (∀ w1, Below W.heap.size W w1 → Calls Tryd.prog 12 #[.agg #[.int .i64 k, .int .i64 n, .string s, .slice An ns.length cn, .slice Ai is.length ci], .string s0] w1 fun e w' => GetRes Y e w' ∧ Below w1.heap.size w1 w') := Lib.hid fun w1 hb => by rw [← hY]; exact get_any (LV.mk k n s An ns cn Ai is ci) s0 w1 (HVW.out.below hb _) HS0.out (HTW.out.below hb)
  have HBA : Hid (∀ was, Y = some was → putX XJ s0 was = (0, (LV.mk k n s An ns cn Ai is ci).j)) := Lib.hid fun was h => HBW2.out was (hY.trans h)
  have HB53 : Hid (Below w5.heap.size w5 w9) := Lib.hid (by have h1 := hb6; have h2 := h1.trans (hb7.mono h1.size); have h3 := h2.trans (hb8.mono h2.size); have h4 := h3.trans (hb9.mono h3.size); exact h4)
  clear hY HBW2
  obtain ⟨c0, c1, c2, c3, c4⟩ : w9.cell? ⟨w.heap.size, 0, none⟩ = some (.int .i64 k) ∧ w9.cell? ⟨w.heap.size, 1, none⟩ = some (.int .i64 n) ∧ w9.cell? ⟨w.heap.size, 2, none⟩ = some (.string s) ∧ w9.cell? ⟨w.heap.size, 3, none⟩ = some (.slice An ns.length cn) ∧ w9.cell? ⟨w.heap.size, 4, none⟩ = some (.slice Ai is.length ci) := ⟨hF9.cell 0, hF9.cell 1, hF9.cell 2, hF9.cell 3, hF9.cell 4⟩
  go_wp2_with fail
  (with_reducible refine (HGV.out w9 hB9).mono ?_)
  rintro e w10 ⟨⟨z, he, hz5, hzj5⟩, hb10⟩
  clear c0 c1 c2 c3 c4
  have hB10 := hB9.trans (hb10.mono hB9.size)
  have hF10 := hF9.below hb10 hF9.lt
  have hG10 := hG9.below hb10 hG9.lt
  have hP10 := hP9.below hb10 hP9.lt
  have hQ10 := hQ9.below hb10 hQ9.lt
  clear hF9 hG9 hP9 hQ9
  obtain ⟨k5, n5, s5, An5, ns5, cn5, Ai5, is5, ci5⟩ := z
  cases Y with
  | none =>
    have he' : e = .returned (.tuple #[.agg #[.int .i64 k5, .int .i64 n5, .string s5, .slice An5 ns5.length cn5, .slice Ai5 is5.length ci5], .bool false]) := he
    clear he
    subst he'
    go_upto_region 10 with fail
    obtain ⟨w11, hw11⟩ : ∃ w11, w11 = w10.alloc (.cells #[.int .i64 k5, .int .i64 n5, .string s5, .slice An5 ns5.length cn5, .slice Ai5 is5.length ci5] 30) := ⟨_, rfl⟩
    rw [← hw11]
    have hb11 : Below w10.heap.size w10 w11 := by rw [hw11]; exact (Below.refl _ _).alloc (Nat.le_refl _) _
    have hR11n : Blk w11 w10.heap.size 30 #[.int .i64 k5, .int .i64 n5, .string s5, .slice An5 ns5.length cn5, .slice Ai5 is5.length ci5] := by rw [hw11]; exact Blk.new w10 _ _
    clear hw11
    have hB11 := hB10.trans (hb11.mono hB10.size)
    have hF11 := hF10.below hb11 hF10.lt
    have hG11 := hG10.below hb11 hG10.lt
    have hP11 := hP10.below hb11 hP10.lt
    have hQ11 := hQ10.below hb11 hQ10.lt
    clear hF10 hG10 hP10 hQ10
    have hR11 := hR11n
    clear hR11n
    obtain ⟨gR, hgR⟩ : ∃ g, w10.heap.size = g := ⟨_, rfl⟩
    rw [hgR] at hR11 ⊢
    clear hgR
    go_wp2
    go_ret
    exact ⟨rfl, hB0.trans (hB11.mono hB0.size)⟩
  | some was =>
  have he' : e = .returned (.tuple #[.agg #[.int .i64 k5, .int .i64 n5, .string s5, .slice An5 ns5.length cn5, .slice Ai5 is5.length ci5], .bool true]) := he
  clear he
  subst he'
  have HZJ5 : Hid ((LV.mk k5 n5 s5 An5 ns5 cn5 Ai5 is5 ci5).j = was) := Lib.hid hzj5
  have HZ5 := Lib.hid hz5
  have HPB := Lib.hid (HBA.out was rfl)
  clear hzj5 hz5 HGV HBA
  go_upto_region 10 with fail
  obtain ⟨w11, hw11⟩ : ∃ w11, w11 = w10.alloc (.cells #[.int .i64 k5, .int .i64 n5, .string s5, .slice An5 ns5.length cn5, .slice Ai5 is5.length ci5] 30) := ⟨_, rfl⟩
  rw [← hw11]
  have hb11 : Below w10.heap.size w10 w11 := by rw [hw11]; exact (Below.refl _ _).alloc (Nat.le_refl _) _
  have hR11n : Blk w11 w10.heap.size 30 #[.int .i64 k5, .int .i64 n5, .string s5, .slice An5 ns5.length cn5, .slice Ai5 is5.length ci5] := by rw [hw11]; exact Blk.new w10 _ _
  clear hw11
  have hB11 := hB10.trans (hb11.mono hB10.size)
  have hF11 := hF10.below hb11 hF10.lt
  have hG11 := hG10.below hb11 hG10.lt
  have hP11 := hP10.below hb11 hP10.lt
  have hQ11 := hQ10.below hb11 hQ10.lt
  clear hF10 hG10 hP10 hQ10
  have hR11 := hR11n
  clear hR11n
  obtain ⟨gR, hgR⟩ : ∃ g, w10.heap.size = g := ⟨_, rfl⟩
  rw [hgR] at hR11 ⊢
  clear hgR
  have HPT : Hid (∀ w1, Below w11.heap.size w11 w1 → Calls Tryd.prog 15 #[.agg #[.int .i64 k3, .int .i64 n3, .string s3, .slice An3 ns3.length cn3, .slice Ai3 is3.length ci3], .string s0, .agg #[.int .i64 k5, .int .i64 n5, .string s5, .slice An5 ns5.length cn5, .slice Ai5 is5.length ci5]] w1 fun e w' => PutsRes (0, (LV.mk k n s An ns cn Ai is ci).j) e w' ∧ Below w1.heap.size w1 w') := Lib.hid fun w1 hb => by
    have hb67 := hb10.trans (hb11.mono hb10.size)
    have h := Put_any (LV.mk k3 n3 s3 An3 ns3 cn3 Ai3 is3 ci3) (LV.mk k5 n5 s5 An5 ns5 cn5 Ai5 is5 ci5) s0 w1 (HAT3.out _ ((HB53.out.trans (hb67.mono HB53.out.size)).trans (hb.mono (HB53.out.trans (hb67.mono HB53.out.size)).size))) ((HZ5.out.below hb11 _).below hb _) HS0.out (HTW.out.below (hB11.trans (hb.mono hB11.size)))
    rw [HZJ3.out, HZJ5.out, HPB.out] at h
    exact h
  obtain ⟨c0, c1, c2, c3, c4⟩ : w11.cell? ⟨gP, 0, none⟩ = some (.int .i64 k3) ∧ w11.cell? ⟨gP, 1, none⟩ = some (.int .i64 n3) ∧ w11.cell? ⟨gP, 2, none⟩ = some (.string s3) ∧ w11.cell? ⟨gP, 3, none⟩ = some (.slice An3 ns3.length cn3) ∧ w11.cell? ⟨gP, 4, none⟩ = some (.slice Ai3 is3.length ci3) := ⟨hP11.cell 0, hP11.cell 1, hP11.cell 2, hP11.cell 3, hP11.cell 4⟩
  obtain ⟨d0, d1, d2, d3, d4⟩ : w11.cell? ⟨gR, 0, none⟩ = some (.int .i64 k5) ∧ w11.cell? ⟨gR, 1, none⟩ = some (.int .i64 n5) ∧ w11.cell? ⟨gR, 2, none⟩ = some (.string s5) ∧ w11.cell? ⟨gR, 3, none⟩ = some (.slice An5 ns5.length cn5) ∧ w11.cell? ⟨gR, 4, none⟩ = some (.slice Ai5 is5.length ci5) := ⟨hR11.cell 0, hR11.cell 1, hR11.cell 2, hR11.cell 3, hR11.cell 4⟩
  go_wp2_with fail
  (with_reducible refine (HPT.out w11 (Below.refl _ _)).mono ?_)
  rintro e w12 ⟨⟨z, he, hz6, hzj6⟩, hb12⟩
  clear c0 c1 c2 c3 c4 d0 d1 d2 d3 d4
  have hB12 := hB11.trans (hb12.mono hB11.size)
  have hF12 := hF11.below hb12 hF11.lt
  have hG12 := hG11.below hb12 hG11.lt
  have hP12 := hP11.below hb12 hP11.lt
  have hQ12 := hQ11.below hb12 hQ11.lt
  have hR12 := hR11.below hb12 hR11.lt
  clear hF11 hG11 hP11 hQ11 hR11
  obtain ⟨k6, n6, s6, An6, ns6, cn6, Ai6, is6, ci6⟩ := z
  have he' : e = .returned (.tuple #[.agg #[.int .i64 k6, .int .i64 n6, .string s6, .slice An6 ns6.length cn6, .slice Ai6 is6.length ci6], .int .i64 0]) := he
  clear he
  subst he'
  have HZJ6 : Hid ((LV.mk k6 n6 s6 An6 ns6 cn6 Ai6 is6 ci6).j = (LV.mk k n s An ns cn Ai is ci).j) := Lib.hid hzj6
  have HZ6 := Lib.hid hz6
  clear hzj6 hz6 HPT
  go_upto_region 13 with fail
  obtain ⟨w13, hw13⟩ : ∃ w13, w13 = w12.alloc (.cells #[.int .i64 k6, .int .i64 n6, .string s6, .slice An6 ns6.length cn6, .slice Ai6 is6.length ci6] 30) := ⟨_, rfl⟩
  rw [← hw13]
  have hb13 : Below w12.heap.size w12 w13 := by rw [hw13]; exact (Below.refl _ _).alloc (Nat.le_refl _) _
  have hS13n : Blk w13 w12.heap.size 30 #[.int .i64 k6, .int .i64 n6, .string s6, .slice An6 ns6.length cn6, .slice Ai6 is6.length ci6] := by rw [hw13]; exact Blk.new w12 _ _
  clear hw13
  have hB13 := hB12.trans (hb13.mono hB12.size)
  have hF13 := hF12.below hb13 hF12.lt
  have hG13 := hG12.below hb13 hG12.lt
  have hP13 := hP12.below hb13 hP12.lt
  have hQ13 := hQ12.below hb13 hQ12.lt
  have hR13 := hR12.below hb13 hR12.lt
  clear hF12 hG12 hP12 hQ12 hR12
  have hS13 := hS13n
  clear hS13n
  obtain ⟨gS, hgS⟩ : ∃ g, w12.heap.size = g := ⟨_, rfl⟩
  rw [hgS] at hS13 ⊢
  clear hgS
  have HSE : Hid (Calls Tryd.prog 14 #[.agg #[.int .i64 k6, .int .i64 n6, .string s6, .slice An6 ns6.length cn6, .slice Ai6 is6.length ci6], .agg #[.int .i64 k, .int .i64 n, .string s, .slice An ns.length cn, .slice Ai is.length ci]] w13 fun e w' => BoolIs ((LV.mk k6 n6 s6 An6 ns6 cn6 Ai6 is6 ci6).j = (LV.mk k n s An ns cn Ai is ci).j) e ∧ Below w13.heap.size w13 w') := Lib.hid (same_any _ (LV.mk k6 n6 s6 An6 ns6 cn6 Ai6 is6 ci6) (LV.mk k n s An ns cn Ai is ci) w13 (Nat.lt_succ_self _) (HZ6.out.below hb13 _) (HVW.out.below hB13 _))
  obtain ⟨c0, c1, c2, c3, c4⟩ : w13.cell? ⟨gS, 0, none⟩ = some (.int .i64 k6) ∧ w13.cell? ⟨gS, 1, none⟩ = some (.int .i64 n6) ∧ w13.cell? ⟨gS, 2, none⟩ = some (.string s6) ∧ w13.cell? ⟨gS, 3, none⟩ = some (.slice An6 ns6.length cn6) ∧ w13.cell? ⟨gS, 4, none⟩ = some (.slice Ai6 is6.length ci6) := ⟨hS13.cell 0, hS13.cell 1, hS13.cell 2, hS13.cell 3, hS13.cell 4⟩
  obtain ⟨d0, d1, d2, d3, d4⟩ : w13.cell? ⟨w.heap.size, 0, none⟩ = some (.int .i64 k) ∧ w13.cell? ⟨w.heap.size, 1, none⟩ = some (.int .i64 n) ∧ w13.cell? ⟨w.heap.size, 2, none⟩ = some (.string s) ∧ w13.cell? ⟨w.heap.size, 3, none⟩ = some (.slice An ns.length cn) ∧ w13.cell? ⟨w.heap.size, 4, none⟩ = some (.slice Ai is.length ci) := ⟨hF13.cell 0, hF13.cell 1, hF13.cell 2, hF13.cell 3, hF13.cell 4⟩
  go_wp2_with fail
  (with_reducible refine (HSE.out).mono ?_)
  rintro e w14 ⟨⟨bb, rfl, hbb⟩, hb14⟩
  clear c0 c1 c2 c3 c4 d0 d1 d2 d3 d4
  have hB14 := hB13.trans (hb14.mono hB13.size)
  have hF14 := hF13.below hb14 hF13.lt
  have hG14 := hG13.below hb14 hG13.lt
  have hP14 := hP13.below hb14 hP13.lt
  have hQ14 := hQ13.below hb14 hQ13.lt
  have hR14 := hR13.below hb14 hR13.lt
  have hS14 := hS13.below hb14 hS13.lt
  clear hF13 hG13 hP13 hQ13 hR13 hS13
  have hbt := hbb.2 HZJ6.out
  subst hbt
  clear hbb
  go_wp2
  go_ret
  exact ⟨rfl, hB0.trans (hB14.mono hB0.size)⟩
end Go.Proofs.YtkjjafijmpacpaaDoor
