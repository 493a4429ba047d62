/-
  KeysRead and KeysBack: their walks.
-/
import Derived.Test.YtpnbmgfnnmmokaaDoorQg
import Derived.Test.YtpnbmgfnnmmokaaDoorRw
set_option linter.unusedVariables false
namespace Go.Proofs.YtpnbmgfnnmmokaaDoor
open Go.RowKit

set_option maxRecDepth 8000 in
set_option maxHeartbeats 8000000 in
theorem kread_walk (A : Option Addr) (b : List Int) (c : Nat) (w : World) (hT : Tabs w) (hc : Cells w w.heap.size A (U8 b)) (ho : Oct b) (hlc : b.length ≤ c ∧ c ≤ 9223372036854775807) :
    Calls Tryd.prog 6 #[.slice A b.length c] w fun e w' => e = .returned (.bool true) ∧ Below w.heap.size w w' := by
  have hB : BRow w A c b := ⟨hc, hlc.1, hlc.2, ho⟩
  obtain ⟨W, hW⟩ : ∃ W, W = w := ⟨_, rfl⟩
  rw [← hW] at hT hB ⊢
  have HA : Hid (∀ w1, Below W.heap.size W w1 → Calls Tryd.prog 9 #[] w1 fun e w' => e = .returned (.bool true) ∧ Below w1.heap.size w1 w') := Lib.hid fun w1 hb => awake04_any w1 (hT.below hb)
  obtain ⟨X, hX⟩ : ∃ X, readX b = X := ⟨_, rfl⟩
  have HR1 : Hid (b.length ≤ 2000 → ∀ w1, Below W.heap.size W w1 → Calls Tryd.prog 17 #[.slice A b.length c] w1 fun e w' => ReadRes X e w' ∧ Below w1.heap.size w1 w') := Lib.hid fun h w1 hb => by rw [← hX]; exact Read_any A c b w1 (hT.below hb) (hB.below hb) (by omega)
  have HR2 : Hid (b.length ≤ 2000 → ∀ w1, Below W.heap.size W w1 → Calls Tryd.prog 18 #[.slice A b.length c] w1 fun e w' => ReadRes X e w' ∧ Below w1.heap.size w1 w') := Lib.hid fun h w1 hb => by rw [← hX]; exact rRead_any A c b w1 (hB.below hb) (by omega)
  obtain ⟨N, hN⟩ : ∃ N, b.length = N := ⟨_, rfl⟩
  rw [hN] at HR1 HR2 ⊢
  have HW := Lib.hid hW
  clear hT hW hB hX hc hlc hN
  obtain ⟨XJ, XN, XE⟩ := X
  go_enter Tryd.func6, Tryd.ntmps6
  go_wp2_with fail
  (with_reducible refine (HA.out W (Below.refl _ _)).mono ?_)
  rintro e w1 ⟨rfl, hb1⟩
  have hB1 := hb1
  by_cases hs : 2000 < N
  · have hsI : (2000 : Int) < (N : Int) := by omega
    go_wp2_with fail
    refine (HA.out w1 hB1).mono ?_
    rintro e wz ⟨rfl, hbz⟩
    go_wp2
    go_ret
    exact ⟨rfl, hB1.trans (hbz.mono hB1.size)⟩
  have hsI : ¬ (2000 : Int) < (N : Int) := by omega
  have HC1 := Lib.hid (HR1.out (by omega))
  have HC2 := Lib.hid (HR2.out (by omega))
  clear HR1 HR2
  go_wp2_with fail
  (with_reducible refine (HC1.out w1 hB1).mono ?_)
  rintro e w2 ⟨⟨z, he, hz3, hzj3⟩, hb2⟩
  have hB2 := hB1.trans (hb2.mono hB1.size)
  obtain ⟨k3, n3, s3, An3, ns3, cn3, Ai3, is3, ci3⟩ := z
  have he' : e = .returned (.tuple #[.agg #[.int .i64 k3, .int .i64 n3, .string s3, .slice An3 ns3.length cn3, .slice Ai3 is3.length ci3], .int .i64 (XN : Nat), .int .i64 XE]) := he
  clear he
  subst he'
  have HZJ3 := Lib.hid hzj3
  have HZ3 := Lib.hid hz3
  clear hzj3 hz3
  go_upto_region 4 with fail
  obtain ⟨w3, hw3⟩ : ∃ w3, w3 = w2.alloc (.cells #[.int .i64 k3, .int .i64 n3, .string s3, .slice An3 ns3.length cn3, .slice Ai3 is3.length ci3] 25) := ⟨_, rfl⟩
  rw [← hw3]
  have hb3 : Below w2.heap.size w2 w3 := by rw [hw3]; exact (Below.refl _ _).alloc (Nat.le_refl _) _
  have hP3n : Blk w3 w2.heap.size 25 #[.int .i64 k3, .int .i64 n3, .string s3, .slice An3 ns3.length cn3, .slice Ai3 is3.length ci3] := by rw [hw3]; exact Blk.new w2 _ _
  clear hw3
  have hB3 := hB2.trans (hb3.mono hB2.size)
  have hP3 := hP3n
  clear hP3n
  obtain ⟨gP, hgP⟩ : ∃ g, w2.heap.size = g := ⟨_, rfl⟩
  rw [hgP] at hP3 ⊢
  clear hgP
  have HAT3 : Hid (∀ w', Below w3.heap.size w3 w' → (LV.mk k3 n3 s3 An3 ns3 cn3 Ai3 is3 ci3).At w') := Lib.hid fun w' hb => (HZ3.out.below hb3 _).below hb _
  clear HZ3
  go_wp2_with fail
  (with_reducible refine (HC2.out w3 hB3).mono ?_)
  rintro e w4 ⟨⟨z, he, hz4, hzj4⟩, hb4⟩
  have hB4 := hB3.trans (hb4.mono hB3.size)
  have hP4 := hP3.below hb4 hP3.lt
  clear hP3
  obtain ⟨k4, n4, s4, An4, ns4, cn4, Ai4, is4, ci4⟩ := z
  have he' : e = .returned (.tuple #[.agg #[.int .i64 k4, .int .i64 n4, .string s4, .slice An4 ns4.length cn4, .slice Ai4 is4.length ci4], .int .i64 (XN : Nat), .int .i64 XE]) := he
  clear he
  subst he'
  have HZJ4 := Lib.hid hzj4
  have HZ4 := Lib.hid hz4
  clear hzj4 hz4
  go_upto_region 5 with fail
  obtain ⟨w5, hw5⟩ : ∃ w5, w5 = w4.alloc (.cells #[.int .i64 k4, .int .i64 n4, .string s4, .slice An4 ns4.length cn4, .slice Ai4 is4.length ci4] 25) := ⟨_, rfl⟩
  rw [← hw5]
  have hb5 : Below w4.heap.size w4 w5 := by rw [hw5]; exact (Below.refl _ _).alloc (Nat.le_refl _) _
  have hQ5n : Blk w5 w4.heap.size 25 #[.int .i64 k4, .int .i64 n4, .string s4, .slice An4 ns4.length cn4, .slice Ai4 is4.length ci4] := by rw [hw5]; exact Blk.new w4 _ _
  clear hw5
  have hB5 := hB4.trans (hb5.mono hB4.size)
  have hP5 := hP4.below hb5 hP4.lt
  clear hP4
  have hQ5 := hQ5n
  clear hQ5n
  obtain ⟨gQ, hgQ⟩ : ∃ g, w4.heap.size = g := ⟨_, rfl⟩
  rw [hgQ] at hQ5 ⊢
  clear hgQ
  have HAT4 : Hid (∀ w', Below w5.heap.size w5 w' → (LV.mk k4 n4 s4 An4 ns4 cn4 Ai4 is4 ci4).At w') := Lib.hid fun w' hb => (HZ4.out.below hb5 _).below hb _
  clear HZ4
  have HEQ : Hid ((LV.mk k3 n3 s3 An3 ns3 cn3 Ai3 is3 ci3).j = (LV.mk k4 n4 s4 An4 ns4 cn4 Ai4 is4 ci4).j) := Lib.hid (HZJ3.out.trans HZJ4.out.symm)
  have hxe : (XE == XE) = true := by simp
  have hxn : ((XN : Int) == (XN : Int)) = true := by simp
  have HSM : Hid (Calls Tryd.prog 19 #[.agg #[.int .i64 k3, .int .i64 n3, .string s3, .slice An3 ns3.length cn3, .slice Ai3 is3.length ci3], .agg #[.int .i64 k4, .int .i64 n4, .string s4, .slice An4 ns4.length cn4, .slice Ai4 is4.length ci4]] w5 fun e w' => BoolIs ((LV.mk k3 n3 s3 An3 ns3 cn3 Ai3 is3 ci3).j = (LV.mk k4 n4 s4 An4 ns4 cn4 Ai4 is4 ci4).j) e ∧ Below w5.heap.size w5 w') := Lib.hid (same_any _ (LV.mk k3 n3 s3 An3 ns3 cn3 Ai3 is3 ci3) (LV.mk k4 n4 s4 An4 ns4 cn4 Ai4 is4 ci4) w5 (Nat.lt_succ_self _) (HAT3.out _ (hb4.trans (hb5.mono hb4.size))) (HAT4.out _ (Below.refl _ _)))
  obtain ⟨c0, c1, c2, c3, c4⟩ : w5.cell? ⟨gP, 0, none⟩ = some (.int .i64 k3) ∧ w5.cell? ⟨gP, 1, none⟩ = some (.int .i64 n3) ∧ w5.cell? ⟨gP, 2, none⟩ = some (.string s3) ∧ w5.cell? ⟨gP, 3, none⟩ = some (.slice An3 ns3.length cn3) ∧ w5.cell? ⟨gP, 4, none⟩ = some (.slice Ai3 is3.length ci3) := ⟨hP5.cell 0, hP5.cell 1, hP5.cell 2, hP5.cell 3, hP5.cell 4⟩
  obtain ⟨d0, d1, d2, d3, d4⟩ : w5.cell? ⟨gQ, 0, none⟩ = some (.int .i64 k4) ∧ w5.cell? ⟨gQ, 1, none⟩ = some (.int .i64 n4) ∧ w5.cell? ⟨gQ, 2, none⟩ = some (.string s4) ∧ w5.cell? ⟨gQ, 3, none⟩ = some (.slice An4 ns4.length cn4) ∧ w5.cell? ⟨gQ, 4, none⟩ = some (.slice Ai4 is4.length ci4) := ⟨hQ5.cell 0, hQ5.cell 1, hQ5.cell 2, hQ5.cell 3, hQ5.cell 4⟩
  go_wp2_with fail
  (with_reducible refine (HSM.out).mono ?_)
  rintro e w6 ⟨⟨bb, rfl, hbb⟩, hb6⟩
  clear c0 c1 c2 c3 c4 d0 d1 d2 d3 d4
  have hB6 := hB5.trans (hb6.mono hB5.size)
  have hP6 := hP5.below hb6 hP5.lt
  have hQ6 := hQ5.below hb6 hQ5.lt
  clear hP5 hQ5
  have hbt := hbb.2 HEQ.out
  subst hbt
  clear hbb
  go_wp2
  go_ret
  exact ⟨rfl, hB6⟩

set_option maxRecDepth 8000 in
set_option maxHeartbeats 8000000 in
theorem kback_walk (v : LV) (A : Option Addr) (b : List Int) (c : Nat) (w : World) (hT : Tabs w) (hv : v.At w) (hc : Cells w w.heap.size A (U8 b)) (ho : Oct b) (hlc : b.length ≤ c ∧ c ≤ 9223372036854775807) :
    Calls Tryd.prog 7 #[v.val, .slice A b.length c] w fun e w' => e = .returned (.bool true) ∧ Below w.heap.size w w' := by
  have hB : BRow w A c b := ⟨hc, hlc.1, hlc.2, ho⟩
  obtain ⟨k, n, s, An, ns, cn, Ai, is, ci⟩ := v
  obtain ⟨W, hW⟩ : ∃ W, W = w.alloc (.cells (valBlk k n s An ns cn Ai is ci) 25) := ⟨_, rfl⟩
  have hB0 : Below w.heap.size w W := by rw [hW]; exact (Below.refl _ _).alloc (Nat.le_refl _) _
  have hF0 : Blk W w.heap.size 25 (valBlk k n s An ns cn Ai is ci) := by rw [hW]; exact Blk.new w _ _
  have hvW := hv.below hB0 _
  have hTW := hT.below hB0
  have hBW := hB.below hB0
  have hN := hvW.nums
  have HA : Hid (∀ w1, Below W.heap.size W w1 → Calls Tryd.prog 9 #[] w1 fun e w' => e = .returned (.bool true) ∧ Below w1.heap.size w1 w') := Lib.hid fun w1 hb => awake04_any w1 (hTW.below hb)
  have HFEW : Hid (∀ w1, Below W.heap.size W w1 → Calls Tryd.prog 10 #[.slice (some ⟨w1.heap.size, 0, none⟩) 1 1] (w1.alloc (.cells #[.int .i64 k, .int .i64 n, .string s, .slice An ns.length cn, .slice Ai is.length ci] 25)) fun e w' => BoolRes e ∧ Below w1.heap.size w1 w') := Lib.hid fun w1 hb =>
    (few04_any _ _ _ _ (RowAt.one (hvW.below hb _))).mono fun e w' ⟨h1, h2⟩ => ⟨h1, ((Below.refl w1.heap.size w1).alloc (Nat.le_refl _) _).trans (h2.mono (by simp))⟩
  have HFO : Hid (∀ w1, Below W.heap.size W w1 → Calls Tryd.prog 15 #[.agg #[.int .i64 k, .int .i64 n, .string s, .slice An ns.length cn, .slice Ai is.length ci]] w1 fun e w' => BoolIs (FormedP (LV.mk k n s An ns cn Ai is ci).j 6) e ∧ Below w1.heap.size w1 w') := Lib.hid fun w1 hb => jformed_any (LV.mk k n s An ns cn Ai is ci) w1 (hvW.below hb _) (hTW.below hb)
  have HK : Hid (∀ w1, Below W.heap.size W w1 → Calls Tryd.prog 11 #[.agg #[.int .i64 k, .int .i64 n, .string s, .slice An ns.length cn, .slice Ai is.length ci]] w1 fun e w' => KeyRes (keyX (LV.mk k n s An ns cn Ai is ci).j) (keyE (LV.mk k n s An ns cn Ai is ci).j) w1.heap.size e w' ∧ Below w1.heap.size w1 w') := Lib.hid fun w1 hb => key_any (LV.mk k n s An ns cn Ai is ci) w1 (hTW.below hb) (hvW.below hb _)
  have HXP : Hid (FormedP (LV.mk k n s An ns cn Ai is ci).j 6 → keyX (LV.mk k n s An ns cn Ai is ci).j = keyJ (LV.mk k n s An ns cn Ai is ci).j ∧ keyE (LV.mk k n s An ns cn Ai is ci).j = 0 ∧ (keyJ (LV.mk k n s An ns cn Ai is ci).j).length ≤ 9000000000000 ∧ Oct (keyJ (LV.mk k n s An ns cn Ai is ci).j) ∧ readX (keyJ (LV.mk k n s An ns cn Ai is ci).j ++ b) = ((LV.mk k n s An ns cn Ai is ci).j, (keyJ (LV.mk k n s An ns cn Ai is ci).j).length, 0)) := Lib.hid fun h => ⟨(keyX_pos h).1, (keyX_pos h).2, key_fits h, keyJ_oct _ _ h, readX_key h hN b⟩
  have HXN : Hid (¬ FormedP (LV.mk k n s An ns cn Ai is ci).j 6 → keyX (LV.mk k n s An ns cn Ai is ci).j = [] ∧ keyE (LV.mk k n s An ns cn Ai is ci).j = 2) := Lib.hid keyX_neg
  have HTW := Lib.hid hTW
  have HVW := Lib.hid hvW
  have HBW := Lib.hid hBW
  generalize keyX (LV.mk k n s An ns cn Ai is ci).j = KX at *
  generalize keyE (LV.mk k n s An ns cn Ai is ci).j = KE at *
  generalize keyJ (LV.mk k n s An ns cn Ai is ci).j = KJ at *
  obtain ⟨FP, hFP⟩ : ∃ FP, FP = FormedP (LV.mk k n s An ns cn Ai is ci).j 6 := ⟨_, rfl⟩
  rw [← hFP] at HFO HXP HXN
  have HLC := Lib.hid hlc
  obtain ⟨N, hNN⟩ : ∃ N, b.length = N := ⟨_, rfl⟩
  rw [hNN] at hlc ⊢
  have HN := Lib.hid hNN
  have HW := Lib.hid hW
  clear hW hv hT hvW hTW hN hc hB hBW hFP hNN
  show Calls Tryd.prog 7 #[.agg (valBlk k n s An ns cn Ai is ci), .slice A N c] w _
  go_enter Tryd.func7, Tryd.ntmps7
  go_wp2_with fail
  rw [← HW.out]
  go_wp2_with fail
  (with_reducible refine (HA.out W (Below.refl _ _)).mono ?_)
  rintro e w1 ⟨rfl, hb1⟩
  have hB1 := hb1
  have hF1 := hF0.below hb1 hF0.lt
  clear hF0
  obtain ⟨c0, c1, c2, c3, c4⟩ : w1.cell? ⟨w.heap.size, 0, none⟩ = some (.int .i64 k) ∧ w1.cell? ⟨w.heap.size, 1, none⟩ = some (.int .i64 n) ∧ w1.cell? ⟨w.heap.size, 2, none⟩ = some (.string s) ∧ w1.cell? ⟨w.heap.size, 3, none⟩ = some (.slice An ns.length cn) ∧ w1.cell? ⟨w.heap.size, 4, none⟩ = some (.slice Ai is.length ci) := ⟨hF1.cell 0, hF1.cell 1, hF1.cell 2, hF1.cell 3, hF1.cell 4⟩
  go_wp2_with fail
  (with_reducible refine (HFEW.out w1 hB1).mono ?_)
  rintro e w2 ⟨⟨bf, rfl⟩, hb2⟩
  clear c0 c1 c2 c3 c4
  have hB2 := hB1.trans (hb2.mono hB1.size)
  have hF2 := hF1.below hb2 hF1.lt
  clear hF1
  cases bf with
  | false =>
    go_wp2_with fail
    refine (HA.out w2 hB2).mono ?_
    rintro e wz ⟨rfl, hbz⟩
    go_wp2
    go_ret
    exact ⟨rfl, hB0.trans ((hB2.trans (hbz.mono hB2.size)).mono hB0.size)⟩
  | true =>
  by_cases hs : 1000 < N
  · have hsI : (1000 : Int) < (N : Int) := by omega
    go_wp2_with fail
    refine (HA.out w2 hB2).mono ?_
    rintro e wz ⟨rfl, hbz⟩
    go_wp2
    go_ret
    exact ⟨rfl, hB0.trans ((hB2.trans (hbz.mono hB2.size)).mono hB0.size)⟩
  have hsI : ¬ (1000 : Int) < (N : Int) := by omega
  obtain ⟨c0, c1, c2, c3, c4⟩ : w2.cell? ⟨w.heap.size, 0, none⟩ = some (.int .i64 k) ∧ w2.cell? ⟨w.heap.size, 1, none⟩ = some (.int .i64 n) ∧ w2.cell? ⟨w.heap.size, 2, none⟩ = some (.string s) ∧ w2.cell? ⟨w.heap.size, 3, none⟩ = some (.slice An ns.length cn) ∧ w2.cell? ⟨w.heap.size, 4, none⟩ = some (.slice Ai is.length ci) := ⟨hF2.cell 0, hF2.cell 1, hF2.cell 2, hF2.cell 3, hF2.cell 4⟩
  go_wp2_with fail
  (with_reducible refine (HK.out w2 hB2).mono ?_)
  rintro e w3 ⟨⟨v1, A1, q1, rfl, hv1, hq1, hm1, hown1, hc1⟩, hb3⟩
  clear c0 c1 c2 c3 c4
  have hB3 := hB2.trans (hb3.mono hB2.size)
  have hF3 := hF2.below hb3 hF2.lt
  clear hF2
  by_cases hfp : FP
  rotate_left
  · obtain ⟨e1, e2⟩ := HXN.out hfp
    subst e1 e2 hv1
    have HNF := Lib.hid hfp
    clear hfp HXP HXN
    obtain ⟨c0, c1, c2, c3, c4⟩ : w3.cell? ⟨w.heap.size, 0, none⟩ = some (.int .i64 k) ∧ w3.cell? ⟨w.heap.size, 1, none⟩ = some (.int .i64 n) ∧ w3.cell? ⟨w.heap.size, 2, none⟩ = some (.string s) ∧ w3.cell? ⟨w.heap.size, 3, none⟩ = some (.slice An ns.length cn) ∧ w3.cell? ⟨w.heap.size, 4, none⟩ = some (.slice Ai is.length ci) := ⟨hF3.cell 0, hF3.cell 1, hF3.cell 2, hF3.cell 3, hF3.cell 4⟩
    go_wp2_with fail
    (with_reducible refine (HFO.out w3 hB3).mono ?_)
    rintro e w4 ⟨⟨bb, rfl, hbb⟩, hb4⟩
    clear c0 c1 c2 c3 c4
    have hB4 := hB3.trans (hb4.mono hB3.size)
    have hF4 := hF3.below hb4 hF3.lt
    clear hF3
    cases bb with
    | true => exact absurd (hbb.1 rfl) HNF.out
    | false =>
    clear hbb
    go_wp2
    go_ret
    exact ⟨rfl, hB0.trans (hB4.mono hB0.size)⟩
  obtain ⟨e1, e2, hkl, hko, hrx⟩ := HXP.out hfp
  subst e1 e2 hv1
  have HKL := Lib.hid hkl
  have HRX := Lib.hid hrx
  have HKO := Lib.hid hko
  clear hkl hrx hko hfp HXP HXN
  obtain ⟨M, hM⟩ : ∃ M, KX.length = M := ⟨_, rfl⟩
  have HM := Lib.hid hM
  rw [hM] at hq1 ⊢
  have hM9 : M ≤ 9000000000000 := by have := HKL.out; omega
  have hc1' : Cells w3 w3.heap.size A1 (U8 KX) := hc1
  obtain ⟨wb, hwb⟩ : ∃ wb, wb = w3 := ⟨_, rfl⟩
  have HBX : Hid (∀ w', Below w3.heap.size w3 w' → Cells w' w'.heap.size A (U8 b)) := Lib.hid fun w' hb => (HBW.out.below (hB3.trans (hb.mono hB3.size))).cells
  clear hwb hM
  go_upto_region 9 with (first | (at_builtin; refine app_any rfl (.tmp 42) (.tmp 43) rfl w3.heap.size _ [] rfl (Own.nil _ _) _ A1 q1 KX (by rw [HM.out]; rfl) hc1' (by rw [HM.out]; simp; omega) (Nat.le_refl _) ?_; intro v2 wx hown2 hg2))
  rw [List.nil_append] at hown2
  have hbx := hg2.below (Own.nil _ _) (Nat.le_refl w3.heap.size)
  have HCB := Lib.hid (HBX.out wx hbx)
  go_upto_region 10 with (first | (at_builtin; refine app_any rfl (.tmp 45) (.tmp 46) rfl w3.heap.size v2 KX rfl hown2 _ A c b (by rw [HN.out]; rfl) HCB.out (by rw [HM.out, HN.out]; omega) hbx.size ?_; intro v3 wy hown3 hg3))
  have hby := hbx.trans (hg3.below hown2 hbx.size)
  obtain ⟨A3, c3, hv3, hl3, hm3, hc3⟩ := hown3.shape
  unfold maxLen at hm3
  subst hv3
  have hBy : Below W.heap.size W wy := hB3.trans (hby.mono hB3.size)
  have HRD : Hid (Calls Tryd.prog 17 #[.slice A3 (M + N) c3] wy fun e w' => ReadRes ((LV.mk k n s An ns cn Ai is ci).j, M, 0) e w' ∧ Below wy.heap.size wy w') := Lib.hid (by
    have h := Read_any A3 c3 (KX ++ b) wy (HTW.out.below hBy) ⟨hc3, hl3, hm3, HKO.out.app ho⟩ (by rw [List.length_append, HM.out, HN.out]; omega)
    rw [HRX.out, List.length_append, HM.out, HN.out] at h
    exact h)
  rw [List.length_append, HM.out, HN.out]
  have hFy := hF3.below hby hF3.lt
  clear hF3 hown3 hg3 hown2 hg2 hc3 hl3
  obtain ⟨w4, hw4⟩ : ∃ w', w' = wy := ⟨_, rfl⟩
  rw [← hw4] at hBy HRD hFy ⊢
  clear hw4 hby
  have hB4 := hBy
  have hF4 := hFy
  clear hBy hFy
  go_wp2_with fail
  (with_reducible refine (HRD.out).mono ?_)
  rintro e w5 ⟨⟨z, he, hz3, hzj3⟩, hb5⟩
  have hB5 := hB4.trans (hb5.mono hB4.size)
  have hF5 := hF4.below hb5 hF4.lt
  clear hF4
  obtain ⟨k3, n3, s3, An3, ns3, cn3, Ai3, is3, ci3⟩ := z
  have he' : e = .returned (.tuple #[.agg #[.int .i64 k3, .int .i64 n3, .string s3, .slice An3 ns3.length cn3, .slice Ai3 is3.length ci3], .int .i64 (M : Nat), .int .i64 0]) := he
  clear he
  subst he'
  have HZJ3 : Hid ((LV.mk k3 n3 s3 An3 ns3 cn3 Ai3 is3 ci3).j = (LV.mk k n s An ns cn Ai is ci).j) := Lib.hid hzj3
  have HZ3 := Lib.hid hz3
  clear hzj3 hz3
  go_upto_region 11 with fail
  obtain ⟨w6, hw6⟩ : ∃ w6, w6 = w5.alloc (.cells #[.int .i64 k3, .int .i64 n3, .string s3, .slice An3 ns3.length cn3, .slice Ai3 is3.length ci3] 25) := ⟨_, rfl⟩
  rw [← hw6]
  have hb6 : Below w5.heap.size w5 w6 := by rw [hw6]; exact (Below.refl _ _).alloc (Nat.le_refl _) _
  have hP6n : Blk w6 w5.heap.size 25 #[.int .i64 k3, .int .i64 n3, .string s3, .slice An3 ns3.length cn3, .slice Ai3 is3.length ci3] := by rw [hw6]; exact Blk.new w5 _ _
  clear hw6
  have hB6 := hB5.trans (hb6.mono hB5.size)
  have hF6 := hF5.below hb6 hF5.lt
  clear hF5
  have hP6 := hP6n
  clear hP6n
  obtain ⟨gP, hgP⟩ : ∃ g, w5.heap.size = g := ⟨_, rfl⟩
  rw [hgP] at hP6 ⊢
  clear hgP
  have hmm : ((M : Int) == (M : Int)) = true := by simp
  have HSM : Hid (Calls Tryd.prog 19 #[.agg #[.int .i64 k, .int .i64 n, .string s, .slice An ns.length cn, .slice Ai is.length ci], .agg #[.int .i64 k3, .int .i64 n3, .string s3, .slice An3 ns3.length cn3, .slice Ai3 is3.length ci3]] w6 fun e w' => BoolIs ((LV.mk k n s An ns cn Ai is ci).j = (LV.mk k3 n3 s3 An3 ns3 cn3 Ai3 is3 ci3).j) e ∧ Below w6.heap.size w6 w') := Lib.hid (same_any _ (LV.mk k n s An ns cn Ai is ci) (LV.mk k3 n3 s3 An3 ns3 cn3 Ai3 is3 ci3) w6 (Nat.lt_succ_self _) (HVW.out.below hB6 _) (HZ3.out.below hb6 _))
  obtain ⟨c0, c1, c2, c3, c4⟩ : w6.cell? ⟨w.heap.size, 0, none⟩ = some (.int .i64 k) ∧ w6.cell? ⟨w.heap.size, 1, none⟩ = some (.int .i64 n) ∧ w6.cell? ⟨w.heap.size, 2, none⟩ = some (.string s) ∧ w6.cell? ⟨w.heap.size, 3, none⟩ = some (.slice An ns.length cn) ∧ w6.cell? ⟨w.heap.size, 4, none⟩ = some (.slice Ai is.length ci) := ⟨hF6.cell 0, hF6.cell 1, hF6.cell 2, hF6.cell 3, hF6.cell 4⟩
  obtain ⟨d0, d1, d2, d3, d4⟩ : w6.cell? ⟨gP, 0, none⟩ = some (.int .i64 k3) ∧ w6.cell? ⟨gP, 1, none⟩ = some (.int .i64 n3) ∧ w6.cell? ⟨gP, 2, none⟩ = some (.string s3) ∧ w6.cell? ⟨gP, 3, none⟩ = some (.slice An3 ns3.length cn3) ∧ w6.cell? ⟨gP, 4, none⟩ = some (.slice Ai3 is3.length ci3) := ⟨hP6.cell 0, hP6.cell 1, hP6.cell 2, hP6.cell 3, hP6.cell 4⟩
  go_wp2_with fail
  (with_reducible refine (HSM.out).mono ?_)
  rintro e w7 ⟨⟨bb, rfl, hbb⟩, hb7⟩
  clear c0 c1 c2 c3 c4 d0 d1 d2 d3 d4
  have hB7 := hB6.trans (hb7.mono hB6.size)
  have hF7 := hF6.below hb7 hF6.lt
  have hP7 := hP6.below hb7 hP6.lt
  clear hF6 hP6
  have hbt := hbb.2 HZJ3.out.symm
  subst hbt
  clear hbb
  go_wp2
  go_ret
  exact ⟨rfl, hB0.trans (hB7.mono hB0.size)⟩
end Go.Proofs.YtpnbmgfnnmmokaaDoor
