/-
  OrderTotal: its walk.
-/
import Derived.Test.YtmobolefijneoaaDoorOe
import Derived.Test.YtmobolefijneoaaDoorOg
set_option linter.unusedVariables false
namespace Go.Proofs.YtmobolefijneoaaDoor
open Go.RowKit

theorem RowAt.ofs {w : World} {is : List LV} (n : Nat) (h : LV.AllAt w is) (hn : is.length = n) (hl : n ≤ 1000) (xs : Array Value) (hx : is.flatMap LV.cells = xs.toList) : RowAt (w.alloc (.cells xs 25)) (some ⟨w.heap.size, 0, none⟩) is n := by
  have hb : Below w.heap.size w (w.alloc (.cells xs 25)) := (Below.refl _ _).alloc (Nat.le_refl _) _
  refine RowAt.mk ?_ (h.below hb _) (by omega)
  rw [World.size_alloc, hx]
  exact cells_blk w xs 25
theorem Blk.third (w : World) (o o2 : Obj) (t : TypeId) (cs : Array Value) : Blk (((w.alloc o).alloc o2).alloc (.cells cs t)) (w.heap.size + 2) t cs := by
  have := Blk.new ((w.alloc o).alloc o2) t cs
  rwa [World.size_alloc, World.size_alloc] at this
theorem cmpX_of {a b : JV} (ha : FormedP a 6) (hb : FormedP b 6) : cmpX a b = cmpJ a b := by rw [cmpX, if_pos ⟨ha, hb⟩]
/-- What OrderTotal asks. -/
theorem total_facts {a b c : JV} (ha : FormedP a 6) (hb : FormedP b 6) (hc : FormedP c 6) :
    cmpX b a = - cmpX a b ∧ cmpX a a = 0 ∧ (cmpX a b = 0 ↔ a = b) ∧ Tri (cmpX a b) (cmpX b c) (cmpX a c) ∧ Sgn (cmpX a b) ∧ Sgn (cmpX b c) ∧ Sgn (cmpX a c) := by
  rw [cmpX_of ha hb, cmpX_of hb ha, cmpX_of ha ha, cmpX_of hb hc, cmpX_of ha hc]
  exact ⟨cmpJ_neg a b, cmpJ_self a, cmpJ_zero ha hb, cmpJ_tri a b c, cmpJ_range a b, cmpJ_range b c, cmpJ_range a c⟩

set_option maxRecDepth 8000 in
set_option maxHeartbeats 16000000 in
theorem total_walk (v v2 v3 : LV) (w : World) (hT : Tabs w) (hv : v.At w) (hv2 : v2.At w) (hv3 : v3.At w) : Calls Tryd.prog 4 #[v.val, v2.val, v3.val] w fun e w' => e = .returned (.bool true) ∧ Below w.heap.size w w' := by
  obtain ⟨k, n, s, An, ns, cn, Ai, is, ci⟩ := v
  obtain ⟨k2, n2, s2, An2, ns2, cn2, Ai2, is2, ci2⟩ := v2
  obtain ⟨k3, n3, s3, An3, ns3, cn3, Ai3, is3, ci3⟩ := v3
  obtain ⟨W, hW⟩ : ∃ W, W = ((w.alloc (.cells (valBlk k n s An ns cn Ai is ci) 25)).alloc (.cells (valBlk k2 n2 s2 An2 ns2 cn2 Ai2 is2 ci2) 25)).alloc (.cells (valBlk k3 n3 s3 An3 ns3 cn3 Ai3 is3 ci3) 25) := ⟨_, rfl⟩
  have hB0 : Below w.heap.size w W := by rw [hW]; exact (((Below.refl _ _).alloc (Nat.le_refl _) _).alloc (by simp) _).alloc (by simp; omega) _
  have hF : Blk W w.heap.size 25 (valBlk k n s An ns cn Ai is ci) := by rw [hW]; exact ((Blk.new w _ _).alloc _).alloc _
  have hG : Blk W (w.heap.size + 1) 25 (valBlk k2 n2 s2 An2 ns2 cn2 Ai2 is2 ci2) := by rw [hW]; exact (Blk.second w _ _ _).alloc _
  have hH : Blk W (w.heap.size + 2) 25 (valBlk k3 n3 s3 An3 ns3 cn3 Ai3 is3 ci3) := by rw [hW]; exact Blk.third w _ _ _ _
  have hvW := hv.below hB0 _
  have hvW2 := hv2.below hB0 _
  have hvW3 := hv3.below hB0 _
  have hTW := hT.below hB0
  have HA : Hid (∀ w1, Below W.heap.size W w1 → Calls Tryd.prog 9 #[] w1 fun e w' => e = .returned (.bool true) ∧ Below w1.heap.size w1 w') := Lib.hid fun w1 hb => awake03_any w1 (hTW.below hb)
  have HFEW : Hid (∀ w1, Below W.heap.size W w1 → Calls Tryd.prog 10 #[.slice (some ⟨w1.heap.size, 0, none⟩) 3 3] (w1.alloc (.cells #[.int .i64 k, .int .i64 n, .string s, .slice An ns.length cn, .slice Ai is.length ci, .int .i64 k2, .int .i64 n2, .string s2, .slice An2 ns2.length cn2, .slice Ai2 is2.length ci2, .int .i64 k3, .int .i64 n3, .string s3, .slice An3 ns3.length cn3, .slice Ai3 is3.length ci3] 25)) fun e w' => BoolRes e ∧ Below w1.heap.size w1 w') := Lib.hid fun w1 hb =>
    (few03_any _ _ _ _ (RowAt.ofs (is := [(LV.mk k n s An ns cn Ai is ci), (LV.mk k2 n2 s2 An2 ns2 cn2 Ai2 is2 ci2), (LV.mk k3 n3 s3 An3 ns3 cn3 Ai3 is3 ci3)]) 3 ⟨hvW.below hb _, hvW2.below hb _, hvW3.below hb _, trivial⟩ rfl (by omega) _ rfl)).mono fun e w' ⟨h1, h2⟩ => ⟨h1, ((Below.refl w1.heap.size w1).alloc (Nat.le_refl _) _).trans (h2.mono (by simp))⟩
  have HF1 : Hid (∀ w1, Below W.heap.size W w1 → Calls Tryd.prog 13 #[.agg #[.int .i64 k, .int .i64 n, .string s, .slice An ns.length cn, .slice Ai is.length ci]] w1 fun e w' => BoolIs (FormedP (LV.mk k n s An ns cn Ai is ci).j 6) e ∧ Below w1.heap.size w1 w') := Lib.hid fun w1 hb => jformed_any _ w1 (hvW.below hb _) (hTW.below hb)
  have HF2 : Hid (∀ w1, Below W.heap.size W w1 → Calls Tryd.prog 13 #[.agg #[.int .i64 k2, .int .i64 n2, .string s2, .slice An2 ns2.length cn2, .slice Ai2 is2.length ci2]] w1 fun e w' => BoolIs (FormedP (LV.mk k2 n2 s2 An2 ns2 cn2 Ai2 is2 ci2).j 6) e ∧ Below w1.heap.size w1 w') := Lib.hid fun w1 hb => jformed_any _ w1 (hvW2.below hb _) (hTW.below hb)
  have HF3 : Hid (∀ w1, Below W.heap.size W w1 → Calls Tryd.prog 13 #[.agg #[.int .i64 k3, .int .i64 n3, .string s3, .slice An3 ns3.length cn3, .slice Ai3 is3.length ci3]] w1 fun e w' => BoolIs (FormedP (LV.mk k3 n3 s3 An3 ns3 cn3 Ai3 is3 ci3).j 6) e ∧ Below w1.heap.size w1 w') := Lib.hid fun w1 hb => jformed_any _ w1 (hvW3.below hb _) (hTW.below hb)
  have HSM : Hid (∀ w1, Below W.heap.size W w1 → Calls Tryd.prog 14 #[.agg #[.int .i64 k, .int .i64 n, .string s, .slice An ns.length cn, .slice Ai is.length ci], .agg #[.int .i64 k2, .int .i64 n2, .string s2, .slice An2 ns2.length cn2, .slice Ai2 is2.length ci2]] w1 fun e w' => BoolIs ((LV.mk k n s An ns cn Ai is ci).j = (LV.mk k2 n2 s2 An2 ns2 cn2 Ai2 is2 ci2).j) e ∧ Below w1.heap.size w1 w') := Lib.hid fun w1 hb => same_any _ _ _ w1 (Nat.lt_succ_self _) (hvW.below hb _) (hvW2.below hb _)
  have HPL0 := fun h1 h2 h3 => total_facts (a := (LV.mk k n s An ns cn Ai is ci).j) (b := (LV.mk k2 n2 s2 An2 ns2 cn2 Ai2 is2 ci2).j) (c := (LV.mk k3 n3 s3 An3 ns3 cn3 Ai3 is3 ci3).j) h1 h2 h3
  obtain ⟨X, hX⟩ : ∃ x, cmpX (LV.mk k n s An ns cn Ai is ci).j (LV.mk k2 n2 s2 An2 ns2 cn2 Ai2 is2 ci2).j = x := ⟨_, rfl⟩
  obtain ⟨Y, hY⟩ : ∃ x, cmpX (LV.mk k2 n2 s2 An2 ns2 cn2 Ai2 is2 ci2).j (LV.mk k3 n3 s3 An3 ns3 cn3 Ai3 is3 ci3).j = x := ⟨_, rfl⟩
  obtain ⟨Z, hZ⟩ : ∃ x, cmpX (LV.mk k n s An ns cn Ai is ci).j (LV.mk k3 n3 s3 An3 ns3 cn3 Ai3 is3 ci3).j = x := ⟨_, rfl⟩
  obtain ⟨XN, hXN⟩ : ∃ x, cmpX (LV.mk k2 n2 s2 An2 ns2 cn2 Ai2 is2 ci2).j (LV.mk k n s An ns cn Ai is ci).j = x := ⟨_, rfl⟩
  obtain ⟨XO, hXO⟩ : ∃ x, cmpX (LV.mk k n s An ns cn Ai is ci).j (LV.mk k n s An ns cn Ai is ci).j = x := ⟨_, rfl⟩
  rw [hX, hY, hZ, hXN, hXO] at HPL0
  have C1 : Hid (∀ w1, Below W.heap.size W w1 → Calls Tryd.prog 11 #[.agg #[.int .i64 k, .int .i64 n, .string s, .slice An ns.length cn, .slice Ai is.length ci], .agg #[.int .i64 k2, .int .i64 n2, .string s2, .slice An2 ns2.length cn2, .slice Ai2 is2.length ci2]] w1 fun e w' => e = .returned (.int .i64 X) ∧ Below w1.heap.size w1 w') := Lib.hid fun w1 hb => by
    have := oCompare_any _ _ w1 (hTW.below hb) (hvW.below hb _) (hvW2.below hb _)
    rw [hX] at this
    exact this
  have C2 : Hid (∀ w1, Below W.heap.size W w1 → Calls Tryd.prog 11 #[.agg #[.int .i64 k2, .int .i64 n2, .string s2, .slice An2 ns2.length cn2, .slice Ai2 is2.length ci2], .agg #[.int .i64 k3, .int .i64 n3, .string s3, .slice An3 ns3.length cn3, .slice Ai3 is3.length ci3]] w1 fun e w' => e = .returned (.int .i64 Y) ∧ Below w1.heap.size w1 w') := Lib.hid fun w1 hb => by
    have := oCompare_any _ _ w1 (hTW.below hb) (hvW2.below hb _) (hvW3.below hb _)
    rw [hY] at this
    exact this
  have C3 : Hid (∀ w1, Below W.heap.size W w1 → Calls Tryd.prog 11 #[.agg #[.int .i64 k, .int .i64 n, .string s, .slice An ns.length cn, .slice Ai is.length ci], .agg #[.int .i64 k3, .int .i64 n3, .string s3, .slice An3 ns3.length cn3, .slice Ai3 is3.length ci3]] w1 fun e w' => e = .returned (.int .i64 Z) ∧ Below w1.heap.size w1 w') := Lib.hid fun w1 hb => by
    have := oCompare_any _ _ w1 (hTW.below hb) (hvW.below hb _) (hvW3.below hb _)
    rw [hZ] at this
    exact this
  have C4 : Hid (∀ w1, Below W.heap.size W w1 → Calls Tryd.prog 11 #[.agg #[.int .i64 k2, .int .i64 n2, .string s2, .slice An2 ns2.length cn2, .slice Ai2 is2.length ci2], .agg #[.int .i64 k, .int .i64 n, .string s, .slice An ns.length cn, .slice Ai is.length ci]] w1 fun e w' => e = .returned (.int .i64 XN) ∧ Below w1.heap.size w1 w') := Lib.hid fun w1 hb => by
    have := oCompare_any _ _ w1 (hTW.below hb) (hvW2.below hb _) (hvW.below hb _)
    rw [hXN] at this
    exact this
  have C5 : Hid (∀ w1, Below W.heap.size W w1 → Calls Tryd.prog 11 #[.agg #[.int .i64 k, .int .i64 n, .string s, .slice An ns.length cn, .slice Ai is.length ci], .agg #[.int .i64 k, .int .i64 n, .string s, .slice An ns.length cn, .slice Ai is.length ci]] w1 fun e w' => e = .returned (.int .i64 XO) ∧ Below w1.heap.size w1 w') := Lib.hid fun w1 hb => by
    have := oCompare_any _ _ w1 (hTW.below hb) (hvW.below hb _) (hvW.below hb _)
    rw [hXO] at this
    exact this
  clear hX hY hZ hXN hXO
  generalize hJ : ((LV.mk k n s An ns cn Ai is ci).j = (LV.mk k2 n2 s2 An2 ns2 cn2 Ai2 is2 ci2).j) = J at *
  generalize FormedP (LV.mk k n s An ns cn Ai is ci).j 6 = P1 at *
  generalize FormedP (LV.mk k2 n2 s2 An2 ns2 cn2 Ai2 is2 ci2).j 6 = P2 at *
  generalize FormedP (LV.mk k3 n3 s3 An3 ns3 cn3 Ai3 is3 ci3).j 6 = P3 at *
  have HPL := Lib.hid HPL0
  have HS : Hid (∀ w', Below W.heap.size W w' → w'.cell? ⟨w.heap.size, 0, none⟩ = some (.int .i64 k) ∧ w'.cell? ⟨w.heap.size, 1, none⟩ = some (.int .i64 n) ∧ w'.cell? ⟨w.heap.size, 2, none⟩ = some (.string s) ∧ w'.cell? ⟨w.heap.size, 3, none⟩ = some (.slice An ns.length cn) ∧ w'.cell? ⟨w.heap.size, 4, none⟩ = some (.slice Ai is.length ci) ∧ w'.cell? ⟨w.heap.size + 1, 0, none⟩ = some (.int .i64 k2) ∧ w'.cell? ⟨w.heap.size + 1, 1, none⟩ = some (.int .i64 n2) ∧ w'.cell? ⟨w.heap.size + 1, 2, none⟩ = some (.string s2) ∧ w'.cell? ⟨w.heap.size + 1, 3, none⟩ = some (.slice An2 ns2.length cn2) ∧ w'.cell? ⟨w.heap.size + 1, 4, none⟩ = some (.slice Ai2 is2.length ci2) ∧ w'.cell? ⟨w.heap.size + 2, 0, none⟩ = some (.int .i64 k3) ∧ w'.cell? ⟨w.heap.size + 2, 1, none⟩ = some (.int .i64 n3) ∧ w'.cell? ⟨w.heap.size + 2, 2, none⟩ = some (.string s3) ∧ w'.cell? ⟨w.heap.size + 2, 3, none⟩ = some (.slice An3 ns3.length cn3) ∧ w'.cell? ⟨w.heap.size + 2, 4, none⟩ = some (.slice Ai3 is3.length ci3)) := Lib.hid fun w' hw' => by
    have hF3 := hF.below hw' hF.lt
    have hG3 := hG.below hw' hG.lt
    have hH3 := hH.below hw' hH.lt
    exact ⟨hF3.cell 0, hF3.cell 1, hF3.cell 2, hF3.cell 3, hF3.cell 4, hG3.cell 0, hG3.cell 1, hG3.cell 2, hG3.cell 3, hG3.cell 4, hH3.cell 0, hH3.cell 1, hH3.cell 2, hH3.cell 3, hH3.cell 4⟩
  have HW := Lib.hid hW
  clear hW hv hv2 hv3 hT hvW hvW2 hvW3 hTW HPL0 hF hG hH hJ
  show Calls Tryd.prog 4 #[.agg (valBlk k n s An ns cn Ai is ci), .agg (valBlk k2 n2 s2 An2 ns2 cn2 Ai2 is2 ci2), .agg (valBlk k3 n3 s3 An3 ns3 cn3 Ai3 is3 ci3)] w _
  go_enter Tryd.func4, Tryd.ntmps4
  go_wp2_with fail
  rw [← HW.out]
  refine (HA.out W (Below.refl _ _)).mono ?_
  rintro e w1 ⟨rfl, hb1⟩
  obtain ⟨c0, c1, c2, c3, c4, d0, d1, d2, d3, d4, e0, e1, e2, e3, e4⟩ := HS.out w1 hb1
  go_wp2_with fail
  refine (HFEW.out w1 hb1).mono ?_
  rintro e w2 ⟨⟨bf, rfl⟩, hb2⟩
  clear c0 c1 c2 c3 c4 d0 d1 d2 d3 d4 e0 e1 e2 e3 e4
  have hB2 := hb1.trans (hb2.mono hb1.size)
  clear hb1 hb2
  cases bf with
  | false =>
    go_wp2_with fail
    refine (HA.out w2 hB2).mono ?_
    rintro e wz ⟨rfl, hbz⟩
    go_wp2
    go_ret
    exact ⟨rfl, hB0.trans ((hB2.trans (hbz.mono hB2.size)).mono hB0.size)⟩
  | true =>
  obtain ⟨c0, c1, c2, c3, c4, d0, d1, d2, d3, d4, e0, e1, e2, e3, e4⟩ := HS.out w2 hB2
  go_wp2_with fail
  refine (HF1.out w2 hB2).mono ?_
  rintro e w3 ⟨⟨bf, rfl, hbf⟩, hb3⟩
  clear c0 c1 c2 c3 c4 d0 d1 d2 d3 d4 e0 e1 e2 e3 e4
  have hB3 := hB2.trans (hb3.mono hB2.size)
  clear hb3
  have HQ1 := Lib.hid hbf
  clear hbf
  cases bf with
  | false =>
    go_wp2_with fail
    refine (HA.out w3 hB3).mono ?_
    rintro e wz ⟨rfl, hbz⟩
    go_wp2
    go_ret
    exact ⟨rfl, hB0.trans ((hB3.trans (hbz.mono hB3.size)).mono hB0.size)⟩
  | true =>
  have HP1 := Lib.hid (HQ1.out.1 rfl)
  clear HQ1
  obtain ⟨c0, c1, c2, c3, c4, d0, d1, d2, d3, d4, e0, e1, e2, e3, e4⟩ := HS.out w3 hB3
  go_wp2_with fail
  refine (HF2.out w3 hB3).mono ?_
  rintro e w4 ⟨⟨bf, rfl, hbf⟩, hb4⟩
  clear c0 c1 c2 c3 c4 d0 d1 d2 d3 d4 e0 e1 e2 e3 e4
  have hB4 := hB3.trans (hb4.mono hB3.size)
  clear hb4
  have HQ2 := Lib.hid hbf
  clear hbf
  cases bf with
  | false =>
    go_wp2_with fail
    refine (HA.out w4 hB4).mono ?_
    rintro e wz ⟨rfl, hbz⟩
    go_wp2
    go_ret
    exact ⟨rfl, hB0.trans ((hB4.trans (hbz.mono hB4.size)).mono hB0.size)⟩
  | true =>
  have HP2 := Lib.hid (HQ2.out.1 rfl)
  clear HQ2
  obtain ⟨c0, c1, c2, c3, c4, d0, d1, d2, d3, d4, e0, e1, e2, e3, e4⟩ := HS.out w4 hB4
  go_wp2_with fail
  refine (HF3.out w4 hB4).mono ?_
  rintro e w5 ⟨⟨bf, rfl, hbf⟩, hb5⟩
  clear c0 c1 c2 c3 c4 d0 d1 d2 d3 d4 e0 e1 e2 e3 e4
  have hB5 := hB4.trans (hb5.mono hB4.size)
  clear hb5
  have HQ3 := Lib.hid hbf
  clear hbf
  cases bf with
  | false =>
    go_wp2_with fail
    refine (HA.out w5 hB5).mono ?_
    rintro e wz ⟨rfl, hbz⟩
    go_wp2
    go_ret
    exact ⟨rfl, hB0.trans ((hB5.trans (hbz.mono hB5.size)).mono hB0.size)⟩
  | true =>
  have HP3 := Lib.hid (HQ3.out.1 rfl)
  clear HQ3
  obtain ⟨hn, ho, hj, htri, hsx, hsy, hsz⟩ := HPL.out HP1.out HP2.out HP3.out
  subst ho
  have HXN := Lib.hid hn
  have HTRI := Lib.hid htri
  have HJ := Lib.hid hj
  have HSX := Lib.hid hsx
  have HSY := Lib.hid hsy
  have HSZ := Lib.hid hsz
  clear hn htri hj hsx hsy hsz HPL HP1 HP2 HP3 HF1 HF2 HF3 HFEW HA
  have HBW : Hid (∀ w', Calm w5 w' → Below W.heap.size W w') := Lib.hid fun w' hw' => hB5.trans (Below.mono hw' hB5.size)
  go_wp2
  refine region_calm (by kernel_rfl) (by kernel_rfl) ?_
  repeat (first
    | go_big_quiet_skip
    | (go_big_quiet_want
       apply quiet_at
       · intro w' hw'
         (obtain ⟨c0, c1, c2, c3, c4, d0, d1, d2, d3, d4, e0, e1, e2, e3, e4⟩ := HS.out _ (HBW.out _ (by assumption)))
         go_simp
         first
           | done
           | exact rfl
           | ((first | (go_at_call 11; (with_reducible refine (C1.out _ (HBW.out _ (by assumption))).mono ?_); rintro e w9 ⟨h1, h2⟩; exact ⟨h1, Below.trans (by assumption) (h2.mono (Below.size (by assumption)))⟩) | (go_at_call 11; (with_reducible refine (C2.out _ (HBW.out _ (by assumption))).mono ?_); rintro e w9 ⟨h1, h2⟩; exact ⟨h1, Below.trans (by assumption) (h2.mono (Below.size (by assumption)))⟩) | (go_at_call 11; (with_reducible refine (C3.out _ (HBW.out _ (by assumption))).mono ?_); rintro e w9 ⟨h1, h2⟩; exact ⟨h1, Below.trans (by assumption) (h2.mono (Below.size (by assumption)))⟩)))
       (try simp only [Act.put, List.setIfInBounds_toArray, List.set_cons_zero, List.set_cons_succ])
       go_big_quiet_on))
  refine wpQuiet_nil ?_
  intro w5 hb5
  have hB6 := HBW.out _ hb5
  clear HBW hb5
  rcases HSX.out with rfl | rfl | rfl
  · obtain rfl : XN = 1 := by have := HXN.out; omega
    obtain ⟨c0, c1, c2, c3, c4, d0, d1, d2, d3, d4, e0, e1, e2, e3, e4⟩ := HS.out w5 hB6
    go_wp2_with fail
    refine (C4.out w5 hB6).mono ?_
    rintro e w6 ⟨rfl, hb6⟩
    clear c0 c1 c2 c3 c4 d0 d1 d2 d3 d4 e0 e1 e2 e3 e4
    have hB7 := hB6.trans (hb6.mono hB6.size)
    obtain ⟨c0, c1, c2, c3, c4, d0, d1, d2, d3, d4, e0, e1, e2, e3, e4⟩ := HS.out w6 hB7
    go_wp2_with fail
    refine (HSM.out w6 hB7).mono ?_
    rintro e w7 ⟨⟨bs, rfl, hbs⟩, hb7⟩
    clear c0 c1 c2 c3 c4 d0 d1 d2 d3 d4 e0 e1 e2 e3 e4
    have hB8 := hB7.trans (hb7.mono hB7.size)
    obtain rfl : bs = false := by have := HJ.out; cases bs; rfl; simp at hbs; simp [hbs] at this
    clear hbs
    obtain ⟨c0, c1, c2, c3, c4, d0, d1, d2, d3, d4, e0, e1, e2, e3, e4⟩ := HS.out w7 hB8
    go_wp2_with fail
    refine (C5.out w7 hB8).mono ?_
    rintro e w8 ⟨rfl, hb8⟩
    clear c0 c1 c2 c3 c4 d0 d1 d2 d3 d4 e0 e1 e2 e3 e4
    have hB9 := hB8.trans (hb8.mono hB8.size)
    clear hb6 hb7 hb8 hB7 hB8
    rcases HSY.out with rfl | rfl | rfl <;> rcases HSZ.out with rfl | rfl | rfl
    all_goals first
      | exact absurd HTRI.out.split (by decide)
      | (go_wp2; go_ret; exact ⟨rfl, hB0.trans (hB9.mono hB0.size)⟩)
  · obtain rfl : XN = 0 := by have := HXN.out; omega
    obtain ⟨c0, c1, c2, c3, c4, d0, d1, d2, d3, d4, e0, e1, e2, e3, e4⟩ := HS.out w5 hB6
    go_wp2_with fail
    refine (C4.out w5 hB6).mono ?_
    rintro e w6 ⟨rfl, hb6⟩
    clear c0 c1 c2 c3 c4 d0 d1 d2 d3 d4 e0 e1 e2 e3 e4
    have hB7 := hB6.trans (hb6.mono hB6.size)
    obtain ⟨c0, c1, c2, c3, c4, d0, d1, d2, d3, d4, e0, e1, e2, e3, e4⟩ := HS.out w6 hB7
    go_wp2_with fail
    refine (HSM.out w6 hB7).mono ?_
    rintro e w7 ⟨⟨bs, rfl, hbs⟩, hb7⟩
    clear c0 c1 c2 c3 c4 d0 d1 d2 d3 d4 e0 e1 e2 e3 e4
    have hB8 := hB7.trans (hb7.mono hB7.size)
    obtain rfl : bs = true := by have := HJ.out; rw [hbs]; simpa using this
    clear hbs
    obtain ⟨c0, c1, c2, c3, c4, d0, d1, d2, d3, d4, e0, e1, e2, e3, e4⟩ := HS.out w7 hB8
    go_wp2_with fail
    refine (C5.out w7 hB8).mono ?_
    rintro e w8 ⟨rfl, hb8⟩
    clear c0 c1 c2 c3 c4 d0 d1 d2 d3 d4 e0 e1 e2 e3 e4
    have hB9 := hB8.trans (hb8.mono hB8.size)
    clear hb6 hb7 hb8 hB7 hB8
    rcases HSY.out with rfl | rfl | rfl <;> rcases HSZ.out with rfl | rfl | rfl
    all_goals first
      | exact absurd HTRI.out.split (by decide)
      | (go_wp2; go_ret; exact ⟨rfl, hB0.trans (hB9.mono hB0.size)⟩)
  · obtain rfl : XN = -1 := by have := HXN.out; omega
    obtain ⟨c0, c1, c2, c3, c4, d0, d1, d2, d3, d4, e0, e1, e2, e3, e4⟩ := HS.out w5 hB6
    go_wp2_with fail
    refine (C4.out w5 hB6).mono ?_
    rintro e w6 ⟨rfl, hb6⟩
    clear c0 c1 c2 c3 c4 d0 d1 d2 d3 d4 e0 e1 e2 e3 e4
    have hB7 := hB6.trans (hb6.mono hB6.size)
    obtain ⟨c0, c1, c2, c3, c4, d0, d1, d2, d3, d4, e0, e1, e2, e3, e4⟩ := HS.out w6 hB7
    go_wp2_with fail
    refine (HSM.out w6 hB7).mono ?_
    rintro e w7 ⟨⟨bs, rfl, hbs⟩, hb7⟩
    clear c0 c1 c2 c3 c4 d0 d1 d2 d3 d4 e0 e1 e2 e3 e4
    have hB8 := hB7.trans (hb7.mono hB7.size)
    obtain rfl : bs = false := by have := HJ.out; cases bs; rfl; simp at hbs; simp [hbs] at this
    clear hbs
    obtain ⟨c0, c1, c2, c3, c4, d0, d1, d2, d3, d4, e0, e1, e2, e3, e4⟩ := HS.out w7 hB8
    go_wp2_with fail
    refine (C5.out w7 hB8).mono ?_
    rintro e w8 ⟨rfl, hb8⟩
    clear c0 c1 c2 c3 c4 d0 d1 d2 d3 d4 e0 e1 e2 e3 e4
    have hB9 := hB8.trans (hb8.mono hB8.size)
    clear hb6 hb7 hb8 hB7 hB8
    rcases HSY.out with rfl | rfl | rfl <;> rcases HSZ.out with rfl | rfl | rfl
    all_goals first
      | exact absurd HTRI.out.split (by decide)
      | (go_wp2; go_ret; exact ⟨rfl, hB0.trans (hB9.mono hB0.size)⟩)
end Go.Proofs.YtmobolefijneoaaDoor
