/-
  PathOther: its walk.
-/
import Derived.Test.YtkjjafijmpacpaaDoorWx
set_option linter.unusedVariables false
namespace Go.Proofs.YtkjjafijmpacpaaDoor
open Go.ChangeShapes Go.WideShapes Go.ChangeAt Go.RowKit

theorem stepsM (s : ByteArray) : ∀ (n k f : Nat) (out l : List ByteArray), stepsP s n k f out = some l → out.length ≤ l.length
  | 0, k, f, out, l, h => by rw [stepsP] at h; injection h with h; rw [h]; exact Nat.le_refl _
  | n + 1, k, f, out, l, h => by
    rw [stepsP] at h
    split at h
    · exact stepsM s n _ _ _ _ h
    · split at h
      · cases h
      · have := stepsM s n _ _ _ _ h
        simp at this; omega
theorem stepsN (s : ByteArray) : ∀ (n k f : Nat) (out l : List ByteArray), k + n = s.size → stepsP s (n + 1) k f out = some l → l ≠ []
  | n, k, f, out, l, hk, h => by
    rw [stepsP] at h
    split at h
    · rename_i hc
      obtain ⟨m, rfl⟩ : ∃ m, n = m + 1 := ⟨n - 1, by omega⟩
      exact stepsN s m (k + 1) f out l (by omega) h
    · split at h
      · cases h
      · have := stepsM s n _ _ _ _ h
        intro e
        rw [e] at this
        simp at this
/-- Steps, as far as PathOther asks: its first step. -/
def StepsAns (Y : Option (List ByteArray)) (e : Ending) (w' : World) : Prop :=
  (e = .returned (.tuple #[.slice none 0 0, .int .i64 2]) ∧ Y = none) ∨
  ∃ (g n c : Nat) (t : ByteArray) (l : List ByteArray), e = .returned (.tuple #[.slice (some ⟨g, 0, none⟩) n c, .int .i64 0]) ∧ Y = some (t :: l) ∧ 0 < n ∧ n ≤ c ∧ c ≤ 9223372036854775807 ∧ g < w'.heap.size ∧ w'.cell? ⟨g, 0, none⟩ = some (.string t)
theorem steps_ans (s : ByteArray) (w : World) (hs : s.size ≤ 2000) (hT : Tabs w) : Calls Tryd.prog 9 #[.string s] w fun e w' => StepsAns (stepsP s (s.size + 1) 0 0 []) e w' ∧ Below w.heap.size w w' := by
  refine (stepsT s w hs hT).mono fun e w' h => ?_
  obtain ⟨h1, h2⟩ := h
  refine ⟨?_, h2⟩
  cases hY : stepsP s (s.size + 1) 0 0 [] with
  | none => rw [hY] at h1; exact .inl ⟨h1, rfl⟩
  | some l =>
    rw [hY] at h1
    obtain ⟨v, rfl, ho⟩ := h1
    have hne := stepsN s s.size 0 0 [] l (by omega) hY
    rcases l with _ | ⟨t, l⟩
    · exact absurd rfl hne
    · rcases ho.2 with ⟨rfl, h0⟩ | ⟨g, cap, cur, rfl, hb, hh, hn, hm, hc, ht⟩
      · simp at h0
      · have hcell := World.ownsRow.cells ho (g := g) rfl 0 (.string t) rfl
        unfold maxLen at hm
        exact .inr ⟨g, _, _, t, l, rfl, rfl, by simp, hn, hm, (ho.lt g rfl).2, hcell⟩

set_option maxRecDepth 8000 in
set_option maxHeartbeats 16000000 in
theorem other_walk (v : LV) (s0 s1 : ByteArray) (x : LV) (w : World) (hT : Tabs w) (hv : v.At w) (hx : x.At w) :
    Calls Tryd.prog 7 #[v.val, .agg #[.string s0, .string s1], x.val] w fun e w' => e = .returned (.bool true) ∧ Below w.heap.size w w' := by
  obtain ⟨k, n, s, An, ns, cn, Ai, is, ci⟩ := v
  obtain ⟨k2, n2, s2, An2, ns2, cn2, Ai2, is2, ci2⟩ := x
  obtain ⟨W, hW⟩ : ∃ W, W = ((w.alloc (.cells (valBlk k n s An ns cn Ai is ci) 30)).alloc (.cells #[.string s0, .string s1] 39)).alloc (.cells (valBlk k2 n2 s2 An2 ns2 cn2 Ai2 is2 ci2) 30) := ⟨_, rfl⟩
  have hB0 : Below w.heap.size w W := by rw [hW]; exact (((Below.refl _ _).alloc (Nat.le_refl _) _).alloc (by simp) _).alloc (by simp; omega) _
  have hF0 : Blk W w.heap.size 30 (valBlk k n s An ns cn Ai is ci) := by rw [hW]; exact ((Blk.new w _ _).alloc _).alloc _
  have hS0 : Blk W (w.heap.size + 1) 39 #[.string s0, .string s1] := by rw [hW]; exact (Blk.second w _ _ _).alloc _
  have hG0 : Blk W (w.heap.size + 2) 30 (valBlk k2 n2 s2 An2 ns2 cn2 Ai2 is2 ci2) := by
    rw [hW]
    have := Blk.new ((w.alloc (.cells (valBlk k n s An ns cn Ai is ci) 30)).alloc (.cells #[.string s0, .string s1] 39)) 30 (valBlk k2 n2 s2 An2 ns2 cn2 Ai2 is2 ci2)
    rwa [World.size_alloc, World.size_alloc] at this
  have hvW := hv.below hB0 _
  have hxW := hx.below hB0 _
  have hTW := hT.below hB0
  have HA : Hid (∀ w1, Below W.heap.size W w1 → Calls Tryd.prog 8 #[] w1 fun e w' => e = .returned (.bool true) ∧ Below w1.heap.size w1 w') := Lib.hid fun w1 hb => awake_any w1 (hTW.below hb)
  have HFEW : Hid (∀ w1, Below W.heap.size W w1 → Calls Tryd.prog 11 #[.agg #[.int .i64 k, .int .i64 n, .string s, .slice An ns.length cn, .slice Ai is.length ci]] w1 fun e w' => BoolRes e ∧ Below w1.heap.size w1 w') := Lib.hid fun w1 hb => few_any _ (LV.mk k n s An ns cn Ai is ci) w1 (Nat.lt_succ_self _) (hvW.below hb _)
  have HFEX : Hid (∀ w1, Below W.heap.size W w1 → Calls Tryd.prog 11 #[.agg #[.int .i64 k2, .int .i64 n2, .string s2, .slice An2 ns2.length cn2, .slice Ai2 is2.length ci2]] w1 fun e w' => BoolRes e ∧ Below w1.heap.size w1 w') := Lib.hid fun w1 hb => few_any _ (LV.mk k2 n2 s2 An2 ns2 cn2 Ai2 is2 ci2) w1 (Nat.lt_succ_self _) (hxW.below hb _)
  have HTW := Lib.hid hTW
  have HVW := Lib.hid hvW
  have HXW := Lib.hid hxW
  have HW := Lib.hid hW
  clear hW hv hx hT hvW hxW hTW
  show Calls Tryd.prog 7 #[.agg (valBlk k n s An ns cn Ai is ci), .agg #[.string s0, .string s1], .agg (valBlk k2 n2 s2 An2 ns2 cn2 Ai2 is2 ci2)] w _
  go_enter Tryd.func7, Tryd.ntmps7
  go_wp2_with fail
  rw [← HW.out]
  go_wp2_with fail
  (with_reducible refine (HA.out W (Below.refl _ _)).mono ?_)
  rintro e w1 ⟨rfl, hb1⟩
  have hB1 := hb1
  have hF1 := hF0.below hb1 hF0.lt
  have hS1 := hS0.below hb1 hS0.lt
  have hG1 := hG0.below hb1 hG0.lt
  clear hF0 hS0 hG0
  obtain ⟨c0, c1, c2, c3, c4⟩ : w1.cell? ⟨w.heap.size, 0, none⟩ = some (.int .i64 k) ∧ w1.cell? ⟨w.heap.size, 1, none⟩ = some (.int .i64 n) ∧ w1.cell? ⟨w.heap.size, 2, none⟩ = some (.string s) ∧ w1.cell? ⟨w.heap.size, 3, none⟩ = some (.slice An ns.length cn) ∧ w1.cell? ⟨w.heap.size, 4, none⟩ = some (.slice Ai is.length ci) := ⟨hF1.cell 0, hF1.cell 1, hF1.cell 2, hF1.cell 3, hF1.cell 4⟩
  go_wp2_with fail
  (with_reducible refine (HFEW.out w1 hB1).mono ?_)
  rintro e w2 ⟨⟨bf, rfl⟩, hb2⟩
  clear c0 c1 c2 c3 c4
  have hB2 := hB1.trans (hb2.mono hB1.size)
  have hF2 := hF1.below hb2 hF1.lt
  have hS2 := hS1.below hb2 hS1.lt
  have hG2 := hG1.below hb2 hG1.lt
  clear hF1 hS1 hG1
  cases bf with
  | false =>
    go_wp2_with fail
    refine (HA.out w2 hB2).mono ?_
    rintro e wz ⟨rfl, hbz⟩
    go_wp2
    go_ret
    exact ⟨rfl, hB0.trans ((hB2.trans (hbz.mono hB2.size)).mono hB0.size)⟩
  | true =>
  obtain ⟨c0, c1, c2, c3, c4⟩ : w2.cell? ⟨w.heap.size + 2, 0, none⟩ = some (.int .i64 k2) ∧ w2.cell? ⟨w.heap.size + 2, 1, none⟩ = some (.int .i64 n2) ∧ w2.cell? ⟨w.heap.size + 2, 2, none⟩ = some (.string s2) ∧ w2.cell? ⟨w.heap.size + 2, 3, none⟩ = some (.slice An2 ns2.length cn2) ∧ w2.cell? ⟨w.heap.size + 2, 4, none⟩ = some (.slice Ai2 is2.length ci2) := ⟨hG2.cell 0, hG2.cell 1, hG2.cell 2, hG2.cell 3, hG2.cell 4⟩
  go_wp2_with fail
  (with_reducible refine (HFEX.out w2 hB2).mono ?_)
  rintro e w3 ⟨⟨bf, rfl⟩, hb3⟩
  clear c0 c1 c2 c3 c4
  have hB3 := hB2.trans (hb3.mono hB2.size)
  have hF3 := hF2.below hb3 hF2.lt
  have hS3 := hS2.below hb3 hS2.lt
  have hG3 := hG2.below hb3 hG2.lt
  clear hF2 hS2 hG2
  cases bf with
  | false =>
    go_wp2_with fail
    refine (HA.out w3 hB3).mono ?_
    rintro e wz ⟨rfl, hbz⟩
    go_wp2
    go_ret
    exact ⟨rfl, hB0.trans ((hB3.trans (hbz.mono hB3.size)).mono hB0.size)⟩
  | true =>
  obtain ⟨q0, q1⟩ : w3.cell? ⟨w.heap.size + 1, 0, none⟩ = some (.string s0) ∧ w3.cell? ⟨w.heap.size + 1, 1, none⟩ = some (.string s1) := ⟨hS3.cell 0, hS3.cell 1⟩
  by_cases hs0 : 2000 < s0.size
  · have hsI0 : (2000 : Int) < (s0.size : Int) := by omega
    go_wp2_with fail
    refine (HA.out w3 hB3).mono ?_
    rintro e wz ⟨rfl, hbz⟩
    go_wp2
    go_ret
    exact ⟨rfl, hB0.trans ((hB3.trans (hbz.mono hB3.size)).mono hB0.size)⟩
  have hsI0 : ¬ (2000 : Int) < (s0.size : Int) := by omega
  have HSZ0 : Hid (s0.size ≤ 2000) := Lib.hid (by omega)
  by_cases hs1 : 2000 < s1.size
  · have hsI1 : (2000 : Int) < (s1.size : Int) := by omega
    go_wp2_with fail
    refine (HA.out w3 hB3).mono ?_
    rintro e wz ⟨rfl, hbz⟩
    go_wp2
    go_ret
    exact ⟨rfl, hB0.trans ((hB3.trans (hbz.mono hB3.size)).mono hB0.size)⟩
  have hsI1 : ¬ (2000 : Int) < (s1.size : Int) := by omega
  have HSZ1 : Hid (s1.size ≤ 2000) := Lib.hid (by omega)
  clear q0 q1
  obtain ⟨Y0, hY0⟩ : ∃ Y, stepsP s0 (s0.size + 1) 0 0 [] = Y := ⟨_, rfl⟩
  have HST0 : Hid (∀ w1, Below W.heap.size W w1 → Calls Tryd.prog 9 #[.string s0] w1 fun e w' => StepsAns Y0 e w' ∧ Below w1.heap.size w1 w') := Lib.hid fun w1 hb => by rw [← hY0]; exact steps_ans s0 w1 HSZ0.out (HTW.out.below hb)
  obtain ⟨Y1, hY1⟩ : ∃ Y, stepsP s1 (s1.size + 1) 0 0 [] = Y := ⟨_, rfl⟩
  have HST1 : Hid (∀ w1, Below W.heap.size W w1 → Calls Tryd.prog 9 #[.string s1] w1 fun e w' => StepsAns Y1 e w' ∧ Below w1.heap.size w1 w') := Lib.hid fun w1 hb => by rw [← hY1]; exact steps_ans s1 w1 HSZ1.out (HTW.out.below hb)
  obtain ⟨X, hX⟩ : ∃ X, putX (LV.mk k n s An ns cn Ai is ci).j s0 (LV.mk k2 n2 s2 An2 ns2 cn2 Ai2 is2 ci2).j = X := ⟨_, rfl⟩
  have HPUT : Hid (∀ w1, Below W.heap.size W w1 → Calls Tryd.prog 15 #[.agg #[.int .i64 k, .int .i64 n, .string s, .slice An ns.length cn, .slice Ai is.length ci], .string s0, .agg #[.int .i64 k2, .int .i64 n2, .string s2, .slice An2 ns2.length cn2, .slice Ai2 is2.length ci2]] w1 fun e w' => PutsRes X e w' ∧ Below w1.heap.size w1 w') := Lib.hid fun w1 hb => by rw [← hX]; exact Put_any (LV.mk k n s An ns cn Ai is ci) (LV.mk k2 n2 s2 An2 ns2 cn2 Ai2 is2 ci2) s0 w1 (HVW.out.below hb _) (HXW.out.below hb _) HSZ0.out (HTW.out.below hb)
  obtain ⟨GV, hGV⟩ : ∃ GV, getX (LV.mk k n s An ns cn Ai is ci).j s1 = GV := ⟨_, rfl⟩
  have HOS : Hid (∀ st lr u mr, Y0 = some (st :: lr) → Y1 = some (u :: mr) → ¬ st = u → X.1 = 0 → getX X.2 s1 = GV) := Lib.hid fun st lr u mr h0 h1 hne h => by rw [← hX] at h ⊢; rw [← hGV]; exact other_same (hY0.trans h0) (hY1.trans h1) (fun e => hne e.symm) h
  have HGV : Hid (∀ w1, Below W.heap.size W w1 → Calls Tryd.prog 12 #[.agg #[.int .i64 k, .int .i64 n, .string s, .slice An ns.length cn, .slice Ai is.length ci], .string s1] w1 fun e w' => GetRes GV e w' ∧ Below w1.heap.size w1 w') := Lib.hid fun w1 hb => by rw [← hGV]; exact get_any (LV.mk k n s An ns cn Ai is ci) s1 w1 (HVW.out.below hb _) HSZ1.out (HTW.out.below hb)
  clear hY0 hY1 hX hGV
  obtain ⟨XE, XJ⟩ := X
  obtain ⟨c0, c1⟩ : w3.cell? ⟨w.heap.size + 1, 0, none⟩ = some (.string s0) ∧ w3.cell? ⟨w.heap.size + 1, 1, none⟩ = some (.string s1) := ⟨hS3.cell 0, hS3.cell 1⟩
  go_wp2_with fail
  (with_reducible refine (HST0.out w3 hB3).mono ?_)
  rintro e w4 ⟨hst, hb4⟩
  clear c0 c1
  have hB4 := hB3.trans (hb4.mono hB3.size)
  have hF4 := hF3.below hb4 hF3.lt
  have hS4 := hS3.below hb4 hS3.lt
  have hG4 := hG3.below hb4 hG3.lt
  clear hF3 hS3 hG3
  rcases hst with ⟨rfl, hY⟩ | ⟨g0, m0, c0, t0, l0, rfl, hY, hm0, hmc0, hcc0, hg0, ht0⟩
  · clear hY
    obtain ⟨c0, c1⟩ : w4.cell? ⟨w.heap.size + 1, 0, none⟩ = some (.string s0) ∧ w4.cell? ⟨w.heap.size + 1, 1, none⟩ = some (.string s1) := ⟨hS4.cell 0, hS4.cell 1⟩
    go_wp2_with fail
    (with_reducible refine (HST1.out w4 hB4).mono ?_)
    rintro e w5 ⟨hst, hb5⟩
    clear c0 c1
    have hB5 := hB4.trans (hb5.mono hB4.size)
    have hF5 := hF4.below hb5 hF4.lt
    have hS5 := hS4.below hb5 hS4.lt
    have hG5 := hG4.below hb5 hG4.lt
    clear hF4 hS4 hG4
    rcases hst with ⟨rfl, hY⟩ | ⟨g1, m1, c1, t1, l1, rfl, hY, hm1, hmc1, hcc1, hg1, ht1⟩
    · clear hY
      obtain ⟨c0, c1, c2, c3, c4⟩ : w5.cell? ⟨w.heap.size, 0, none⟩ = some (.int .i64 k) ∧ w5.cell? ⟨w.heap.size, 1, none⟩ = some (.int .i64 n) ∧ w5.cell? ⟨w.heap.size, 2, none⟩ = some (.string s) ∧ w5.cell? ⟨w.heap.size, 3, none⟩ = some (.slice An ns.length cn) ∧ w5.cell? ⟨w.heap.size, 4, none⟩ = some (.slice Ai is.length ci) := ⟨hF5.cell 0, hF5.cell 1, hF5.cell 2, hF5.cell 3, hF5.cell 4⟩
      obtain ⟨d0, d1⟩ : w5.cell? ⟨w.heap.size + 1, 0, none⟩ = some (.string s0) ∧ w5.cell? ⟨w.heap.size + 1, 1, none⟩ = some (.string s1) := ⟨hS5.cell 0, hS5.cell 1⟩
      obtain ⟨e0, e1, e2, e3, e4⟩ : w5.cell? ⟨w.heap.size + 2, 0, none⟩ = some (.int .i64 k2) ∧ w5.cell? ⟨w.heap.size + 2, 1, none⟩ = some (.int .i64 n2) ∧ w5.cell? ⟨w.heap.size + 2, 2, none⟩ = some (.string s2) ∧ w5.cell? ⟨w.heap.size + 2, 3, none⟩ = some (.slice An2 ns2.length cn2) ∧ w5.cell? ⟨w.heap.size + 2, 4, none⟩ = some (.slice Ai2 is2.length ci2) := ⟨hG5.cell 0, hG5.cell 1, hG5.cell 2, hG5.cell 3, hG5.cell 4⟩
      go_wp2_with fail
      (with_reducible refine (HPUT.out w5 hB5).mono ?_)
      rintro e w6 ⟨⟨z, he, hz3, hzj3⟩, hb6⟩
      clear c0 c1 c2 c3 c4 d0 d1 e0 e1 e2 e3 e4
      have hB6 := hB5.trans (hb6.mono hB5.size)
      have hF6 := hF5.below hb6 hF5.lt
      have hS6 := hS5.below hb6 hS5.lt
      have hG6 := hG5.below hb6 hG5.lt
      clear hF5 hS5 hG5
      obtain ⟨k3, n3, s3, An3, ns3, cn3, Ai3, is3, ci3⟩ := z
      have he' : e = .returned (.tuple #[.agg #[.int .i64 k3, .int .i64 n3, .string s3, .slice An3 ns3.length cn3, .slice Ai3 is3.length ci3], .int .i64 XE]) := he
      clear he
      subst he'
      have HZJ3 : Hid ((LV.mk k3 n3 s3 An3 ns3 cn3 Ai3 is3 ci3).j = XJ) := Lib.hid hzj3
      have HZ3 := Lib.hid hz3
      clear hzj3 hz3
      go_upto_region 6 with fail
      obtain ⟨w7, hw7⟩ : ∃ w7, w7 = w6.alloc (.cells #[.int .i64 k3, .int .i64 n3, .string s3, .slice An3 ns3.length cn3, .slice Ai3 is3.length ci3] 30) := ⟨_, rfl⟩
      rw [← hw7]
      have hb7 : Below w6.heap.size w6 w7 := by rw [hw7]; exact (Below.refl _ _).alloc (Nat.le_refl _) _
      have hP7n : Blk w7 w6.heap.size 30 #[.int .i64 k3, .int .i64 n3, .string s3, .slice An3 ns3.length cn3, .slice Ai3 is3.length ci3] := by rw [hw7]; exact Blk.new w6 _ _
      clear hw7
      have hB7 := hB6.trans (hb7.mono hB6.size)
      have hF7 := hF6.below hb7 hF6.lt
      have hS7 := hS6.below hb7 hS6.lt
      have hG7 := hG6.below hb7 hG6.lt
      clear hF6 hS6 hG6
      have hP7 := hP7n
      clear hP7n
      obtain ⟨gP, hgP⟩ : ∃ g, w6.heap.size = g := ⟨_, rfl⟩
      rw [hgP] at hP7 ⊢
      clear hgP
      go_wp2
      refine region_calm (by kernel_rfl) (by kernel_rfl) ?_
      repeat (first
        | go_big_quiet_skip
        | (go_big_quiet_want
           apply quiet_at
           · intro w' hw'
             (skip)
             go_simp
             first
               | done
               | exact rfl
               | (fail)
           (try simp only [Act.put, List.setIfInBounds_toArray, List.set_cons_zero, List.set_cons_succ])
           go_big_quiet_on))
      refine wpQuiet_nil ?_
      intro w5 hb5
      obtain ⟨w8, hw8⟩ : ∃ w, w = w5 := ⟨_, rfl⟩
      rw [← hw8] at hb5 ⊢
      clear hw8
      have hb8 : Below w7.heap.size w7 w8 := hb5
      have hB8 := hB7.trans (hb8.mono hB7.size)
      have hF8 := hF7.below hb8 hF7.lt
      have hS8 := hS7.below hb8 hS7.lt
      have hG8 := hG7.below hb8 hG7.lt
      have hP8 := hP7.below hb8 hP7.lt
      clear hF7 hS7 hG7 hP7
      go_wp2
      go_ret
      exact ⟨rfl, hB0.trans (hB8.mono hB0.size)⟩
    · clear hY
      obtain ⟨c0, c1, c2, c3, c4⟩ : w5.cell? ⟨w.heap.size, 0, none⟩ = some (.int .i64 k) ∧ w5.cell? ⟨w.heap.size, 1, none⟩ = some (.int .i64 n) ∧ w5.cell? ⟨w.heap.size, 2, none⟩ = some (.string s) ∧ w5.cell? ⟨w.heap.size, 3, none⟩ = some (.slice An ns.length cn) ∧ w5.cell? ⟨w.heap.size, 4, none⟩ = some (.slice Ai is.length ci) := ⟨hF5.cell 0, hF5.cell 1, hF5.cell 2, hF5.cell 3, hF5.cell 4⟩
      obtain ⟨d0, d1⟩ : w5.cell? ⟨w.heap.size + 1, 0, none⟩ = some (.string s0) ∧ w5.cell? ⟨w.heap.size + 1, 1, none⟩ = some (.string s1) := ⟨hS5.cell 0, hS5.cell 1⟩
      obtain ⟨e0, e1, e2, e3, e4⟩ : w5.cell? ⟨w.heap.size + 2, 0, none⟩ = some (.int .i64 k2) ∧ w5.cell? ⟨w.heap.size + 2, 1, none⟩ = some (.int .i64 n2) ∧ w5.cell? ⟨w.heap.size + 2, 2, none⟩ = some (.string s2) ∧ w5.cell? ⟨w.heap.size + 2, 3, none⟩ = some (.slice An2 ns2.length cn2) ∧ w5.cell? ⟨w.heap.size + 2, 4, none⟩ = some (.slice Ai2 is2.length ci2) := ⟨hG5.cell 0, hG5.cell 1, hG5.cell 2, hG5.cell 3, hG5.cell 4⟩
      go_wp2_with fail
      (with_reducible refine (HPUT.out w5 hB5).mono ?_)
      rintro e w6 ⟨⟨z, he, hz3, hzj3⟩, hb6⟩
      clear c0 c1 c2 c3 c4 d0 d1 e0 e1 e2 e3 e4
      have hB6 := hB5.trans (hb6.mono hB5.size)
      have hF6 := hF5.below hb6 hF5.lt
      have hS6 := hS5.below hb6 hS5.lt
      have hG6 := hG5.below hb6 hG5.lt
      clear hF5 hS5 hG5
      obtain ⟨k3, n3, s3, An3, ns3, cn3, Ai3, is3, ci3⟩ := z
      have he' : e = .returned (.tuple #[.agg #[.int .i64 k3, .int .i64 n3, .string s3, .slice An3 ns3.length cn3, .slice Ai3 is3.length ci3], .int .i64 XE]) := he
      clear he
      subst he'
      have HZJ3 : Hid ((LV.mk k3 n3 s3 An3 ns3 cn3 Ai3 is3 ci3).j = XJ) := Lib.hid hzj3
      have HZ3 := Lib.hid hz3
      clear hzj3 hz3
      go_upto_region 6 with fail
      obtain ⟨w7, hw7⟩ : ∃ w7, w7 = w6.alloc (.cells #[.int .i64 k3, .int .i64 n3, .string s3, .slice An3 ns3.length cn3, .slice Ai3 is3.length ci3] 30) := ⟨_, rfl⟩
      rw [← hw7]
      have hb7 : Below w6.heap.size w6 w7 := by rw [hw7]; exact (Below.refl _ _).alloc (Nat.le_refl _) _
      have hP7n : Blk w7 w6.heap.size 30 #[.int .i64 k3, .int .i64 n3, .string s3, .slice An3 ns3.length cn3, .slice Ai3 is3.length ci3] := by rw [hw7]; exact Blk.new w6 _ _
      clear hw7
      have hB7 := hB6.trans (hb7.mono hB6.size)
      have hF7 := hF6.below hb7 hF6.lt
      have hS7 := hS6.below hb7 hS6.lt
      have hG7 := hG6.below hb7 hG6.lt
      clear hF6 hS6 hG6
      have hP7 := hP7n
      clear hP7n
      obtain ⟨gP, hgP⟩ : ∃ g, w6.heap.size = g := ⟨_, rfl⟩
      rw [hgP] at hP7 ⊢
      clear hgP
      go_wp2
      refine region_calm (by kernel_rfl) (by kernel_rfl) ?_
      repeat (first
        | go_big_quiet_skip
        | (go_big_quiet_want
           apply quiet_at
           · intro w' hw'
             (skip)
             go_simp
             first
               | done
               | exact rfl
               | (fail)
           (try simp only [Act.put, List.setIfInBounds_toArray, List.set_cons_zero, List.set_cons_succ])
           go_big_quiet_on))
      refine wpQuiet_nil ?_
      intro w5 hb5
      obtain ⟨w8, hw8⟩ : ∃ w, w = w5 := ⟨_, rfl⟩
      rw [← hw8] at hb5 ⊢
      clear hw8
      have hb8 : Below w7.heap.size w7 w8 := hb5
      have hB8 := hB7.trans (hb8.mono hB7.size)
      have hF8 := hF7.below hb8 hF7.lt
      have hS8 := hS7.below hb8 hS7.lt
      have hG8 := hG7.below hb8 hG7.lt
      have hP8 := hP7.below hb8 hP7.lt
      clear hF7 hS7 hG7 hP7
      go_wp2
      go_ret
      exact ⟨rfl, hB0.trans (hB8.mono hB0.size)⟩
  have HY0 := Lib.hid hY
  clear hY
  obtain ⟨c0, c1⟩ : w4.cell? ⟨w.heap.size + 1, 0, none⟩ = some (.string s0) ∧ w4.cell? ⟨w.heap.size + 1, 1, none⟩ = some (.string s1) := ⟨hS4.cell 0, hS4.cell 1⟩
  go_wp2_with fail
  (with_reducible refine (HST1.out w4 hB4).mono ?_)
  rintro e w5 ⟨hst, hb5⟩
  clear c0 c1
  have hB5 := hB4.trans (hb5.mono hB4.size)
  have hF5 := hF4.below hb5 hF4.lt
  have hS5 := hS4.below hb5 hS4.lt
  have hG5 := hG4.below hb5 hG4.lt
  clear hF4 hS4 hG4
  rcases hst with ⟨rfl, hY⟩ | ⟨g1, m1, c1, t1, l1, rfl, hY, hm1, hmc1, hcc1, hg1, ht1⟩
  · clear hY
    obtain ⟨c0, c1, c2, c3, c4⟩ : w5.cell? ⟨w.heap.size, 0, none⟩ = some (.int .i64 k) ∧ w5.cell? ⟨w.heap.size, 1, none⟩ = some (.int .i64 n) ∧ w5.cell? ⟨w.heap.size, 2, none⟩ = some (.string s) ∧ w5.cell? ⟨w.heap.size, 3, none⟩ = some (.slice An ns.length cn) ∧ w5.cell? ⟨w.heap.size, 4, none⟩ = some (.slice Ai is.length ci) := ⟨hF5.cell 0, hF5.cell 1, hF5.cell 2, hF5.cell 3, hF5.cell 4⟩
    obtain ⟨d0, d1⟩ : w5.cell? ⟨w.heap.size + 1, 0, none⟩ = some (.string s0) ∧ w5.cell? ⟨w.heap.size + 1, 1, none⟩ = some (.string s1) := ⟨hS5.cell 0, hS5.cell 1⟩
    obtain ⟨e0, e1, e2, e3, e4⟩ : w5.cell? ⟨w.heap.size + 2, 0, none⟩ = some (.int .i64 k2) ∧ w5.cell? ⟨w.heap.size + 2, 1, none⟩ = some (.int .i64 n2) ∧ w5.cell? ⟨w.heap.size + 2, 2, none⟩ = some (.string s2) ∧ w5.cell? ⟨w.heap.size + 2, 3, none⟩ = some (.slice An2 ns2.length cn2) ∧ w5.cell? ⟨w.heap.size + 2, 4, none⟩ = some (.slice Ai2 is2.length ci2) := ⟨hG5.cell 0, hG5.cell 1, hG5.cell 2, hG5.cell 3, hG5.cell 4⟩
    go_wp2_with fail
    (with_reducible refine (HPUT.out w5 hB5).mono ?_)
    rintro e w6 ⟨⟨z, he, hz3, hzj3⟩, hb6⟩
    clear c0 c1 c2 c3 c4 d0 d1 e0 e1 e2 e3 e4
    have hB6 := hB5.trans (hb6.mono hB5.size)
    have hF6 := hF5.below hb6 hF5.lt
    have hS6 := hS5.below hb6 hS5.lt
    have hG6 := hG5.below hb6 hG5.lt
    clear hF5 hS5 hG5
    obtain ⟨k3, n3, s3, An3, ns3, cn3, Ai3, is3, ci3⟩ := z
    have he' : e = .returned (.tuple #[.agg #[.int .i64 k3, .int .i64 n3, .string s3, .slice An3 ns3.length cn3, .slice Ai3 is3.length ci3], .int .i64 XE]) := he
    clear he
    subst he'
    have HZJ3 : Hid ((LV.mk k3 n3 s3 An3 ns3 cn3 Ai3 is3 ci3).j = XJ) := Lib.hid hzj3
    have HZ3 := Lib.hid hz3
    clear hzj3 hz3
    go_upto_region 6 with fail
    obtain ⟨w7, hw7⟩ : ∃ w7, w7 = w6.alloc (.cells #[.int .i64 k3, .int .i64 n3, .string s3, .slice An3 ns3.length cn3, .slice Ai3 is3.length ci3] 30) := ⟨_, rfl⟩
    rw [← hw7]
    have hb7 : Below w6.heap.size w6 w7 := by rw [hw7]; exact (Below.refl _ _).alloc (Nat.le_refl _) _
    have hP7n : Blk w7 w6.heap.size 30 #[.int .i64 k3, .int .i64 n3, .string s3, .slice An3 ns3.length cn3, .slice Ai3 is3.length ci3] := by rw [hw7]; exact Blk.new w6 _ _
    clear hw7
    have hB7 := hB6.trans (hb7.mono hB6.size)
    have hF7 := hF6.below hb7 hF6.lt
    have hS7 := hS6.below hb7 hS6.lt
    have hG7 := hG6.below hb7 hG6.lt
    clear hF6 hS6 hG6
    have hP7 := hP7n
    clear hP7n
    obtain ⟨gP, hgP⟩ : ∃ g, w6.heap.size = g := ⟨_, rfl⟩
    rw [hgP] at hP7 ⊢
    clear hgP
    go_wp2
    refine region_calm (by kernel_rfl) (by kernel_rfl) ?_
    repeat (first
      | go_big_quiet_skip
      | (go_big_quiet_want
         apply quiet_at
         · intro w' hw'
           (skip)
           go_simp
           first
             | done
             | exact rfl
             | (fail)
         (try simp only [Act.put, List.setIfInBounds_toArray, List.set_cons_zero, List.set_cons_succ])
         go_big_quiet_on))
    refine wpQuiet_nil ?_
    intro w5 hb5
    obtain ⟨w8, hw8⟩ : ∃ w, w = w5 := ⟨_, rfl⟩
    rw [← hw8] at hb5 ⊢
    clear hw8
    have hb8 : Below w7.heap.size w7 w8 := hb5
    have hB8 := hB7.trans (hb8.mono hB7.size)
    have hF8 := hF7.below hb8 hF7.lt
    have hS8 := hS7.below hb8 hS7.lt
    have hG8 := hG7.below hb8 hG7.lt
    have hP8 := hP7.below hb8 hP7.lt
    clear hF7 hS7 hG7 hP7
    go_wp2
    go_ret
    exact ⟨rfl, hB0.trans (hB8.mono hB0.size)⟩
  have HY1 := Lib.hid hY
  clear hY
  obtain ⟨c0, c1, c2, c3, c4⟩ : w5.cell? ⟨w.heap.size, 0, none⟩ = some (.int .i64 k) ∧ w5.cell? ⟨w.heap.size, 1, none⟩ = some (.int .i64 n) ∧ w5.cell? ⟨w.heap.size, 2, none⟩ = some (.string s) ∧ w5.cell? ⟨w.heap.size, 3, none⟩ = some (.slice An ns.length cn) ∧ w5.cell? ⟨w.heap.size, 4, none⟩ = some (.slice Ai is.length ci) := ⟨hF5.cell 0, hF5.cell 1, hF5.cell 2, hF5.cell 3, hF5.cell 4⟩
  obtain ⟨d0, d1⟩ : w5.cell? ⟨w.heap.size + 1, 0, none⟩ = some (.string s0) ∧ w5.cell? ⟨w.heap.size + 1, 1, none⟩ = some (.string s1) := ⟨hS5.cell 0, hS5.cell 1⟩
  obtain ⟨e0, e1, e2, e3, e4⟩ : w5.cell? ⟨w.heap.size + 2, 0, none⟩ = some (.int .i64 k2) ∧ w5.cell? ⟨w.heap.size + 2, 1, none⟩ = some (.int .i64 n2) ∧ w5.cell? ⟨w.heap.size + 2, 2, none⟩ = some (.string s2) ∧ w5.cell? ⟨w.heap.size + 2, 3, none⟩ = some (.slice An2 ns2.length cn2) ∧ w5.cell? ⟨w.heap.size + 2, 4, none⟩ = some (.slice Ai2 is2.length ci2) := ⟨hG5.cell 0, hG5.cell 1, hG5.cell 2, hG5.cell 3, hG5.cell 4⟩
  go_wp2_with fail
  (with_reducible refine (HPUT.out w5 hB5).mono ?_)
  rintro e w6 ⟨⟨z, he, hz3, hzj3⟩, hb6⟩
  clear c0 c1 c2 c3 c4 d0 d1 e0 e1 e2 e3 e4
  have hB6 := hB5.trans (hb6.mono hB5.size)
  have hF6 := hF5.below hb6 hF5.lt
  have hS6 := hS5.below hb6 hS5.lt
  have hG6 := hG5.below hb6 hG5.lt
  clear hF5 hS5 hG5
  obtain ⟨k3, n3, s3, An3, ns3, cn3, Ai3, is3, ci3⟩ := z
  have he' : e = .returned (.tuple #[.agg #[.int .i64 k3, .int .i64 n3, .string s3, .slice An3 ns3.length cn3, .slice Ai3 is3.length ci3], .int .i64 XE]) := he
  clear he
  subst he'
  have HZJ3 : Hid ((LV.mk k3 n3 s3 An3 ns3 cn3 Ai3 is3 ci3).j = XJ) := Lib.hid hzj3
  have HZ3 := Lib.hid hz3
  clear hzj3 hz3
  go_upto_region 6 with fail
  obtain ⟨w7, hw7⟩ : ∃ w7, w7 = w6.alloc (.cells #[.int .i64 k3, .int .i64 n3, .string s3, .slice An3 ns3.length cn3, .slice Ai3 is3.length ci3] 30) := ⟨_, rfl⟩
  rw [← hw7]
  have hb7 : Below w6.heap.size w6 w7 := by rw [hw7]; exact (Below.refl _ _).alloc (Nat.le_refl _) _
  have hP7n : Blk w7 w6.heap.size 30 #[.int .i64 k3, .int .i64 n3, .string s3, .slice An3 ns3.length cn3, .slice Ai3 is3.length ci3] := by rw [hw7]; exact Blk.new w6 _ _
  clear hw7
  have hB7 := hB6.trans (hb7.mono hB6.size)
  have hF7 := hF6.below hb7 hF6.lt
  have hS7 := hS6.below hb7 hS6.lt
  have hG7 := hG6.below hb7 hG6.lt
  clear hF6 hS6 hG6
  have hP7 := hP7n
  clear hP7n
  obtain ⟨gP, hgP⟩ : ∃ g, w6.heap.size = g := ⟨_, rfl⟩
  rw [hgP] at hP7 ⊢
  clear hgP
  have HAT3 : Hid (∀ w', Below w7.heap.size w7 w' → (LV.mk k3 n3 s3 An3 ns3 cn3 Ai3 is3 ci3).At w') := Lib.hid fun w' hb => (HZ3.out.below hb7 _).below hb _
  clear HZ3
  by_cases hxe : XE = 0
  rotate_left
  · have hxeI : (XE != 0) = true := by rw [bne_iff_ne]; exact hxe
    clear hxe
    go_wp2
    refine region_calm (by kernel_rfl) (by kernel_rfl) ?_
    repeat (first
      | go_big_quiet_skip
      | (go_big_quiet_want
         apply quiet_at
         · intro w' hw'
           (skip)
           go_simp
           first
             | done
             | exact rfl
             | (fail)
         (try simp only [Act.put, List.setIfInBounds_toArray, List.set_cons_zero, List.set_cons_succ])
         go_big_quiet_on))
    refine wpQuiet_nil ?_
    intro w5 hb5
    obtain ⟨w8, hw8⟩ : ∃ w, w = w5 := ⟨_, rfl⟩
    rw [← hw8] at hb5 ⊢
    clear hw8
    have hb8 : Below w7.heap.size w7 w8 := hb5
    have hB8 := hB7.trans (hb8.mono hB7.size)
    have hF8 := hF7.below hb8 hF7.lt
    have hS8 := hS7.below hb8 hS7.lt
    have hG8 := hG7.below hb8 hG7.lt
    have hP8 := hP7.below hb8 hP7.lt
    clear hF7 hS7 hG7 hP7
    go_wp2
    go_ret
    exact ⟨rfl, hB0.trans (hB8.mono hB0.size)⟩
  subst hxe
  have e0 : w7.cell? ⟨g0, 0, none⟩ = some (.string t0) := (Below.cell (p := ⟨g0, 0, none⟩) (by have h1 := hb5; have h2 := h1.trans (hb6.mono h1.size); have h3 := h2.trans (hb7.mono h2.size); exact h3) hg0).trans ht0
  have e1 : w7.cell? ⟨g1, 0, none⟩ = some (.string t1) := (Below.cell (p := ⟨g1, 0, none⟩) (by have h1 := hb6; have h2 := h1.trans (hb7.mono h1.size); exact h2) hg1).trans ht1
  have mI0 : (0 : Int) < (m0 : Int) := by omega
  have mI1 : (0 : Int) < (m1 : Int) := by omega
  have HCT : Hid (∀ w', Calm w7 w' → w'.cell? ⟨g0, 0, none⟩ = some (.string t0) ∧ w'.cell? ⟨g1, 0, none⟩ = some (.string t1)) := Lib.hid fun w' hw' => ⟨(Below.cell (p := ⟨g0, 0, none⟩) hw' (Nat.lt_of_lt_of_le hg0 (Below.size (by have h1 := hb5; have h2 := h1.trans (hb6.mono h1.size); have h3 := h2.trans (hb7.mono h2.size); exact h3)))).trans e0, (Below.cell (p := ⟨g1, 0, none⟩) hw' (Nat.lt_of_lt_of_le hg1 (Below.size (by have h1 := hb6; have h2 := h1.trans (hb7.mono h1.size); exact h2)))).trans e1⟩
  clear e0 e1
  by_cases hne : t0 = t1
  · have heq : (t0.toList == t1.toList) = true := toList_inj.2 hne
    have HNE := Lib.hid hne
    clear hne
    go_wp2
    refine region_calm (by kernel_rfl) (by kernel_rfl) ?_
    repeat (first
      | go_big_quiet_skip
      | (go_big_quiet_want
         apply quiet_at
         · intro w' hw'
           (obtain ⟨e0, e1⟩ := HCT.out _ (by assumption))
           go_simp
           first
             | done
             | exact rfl
             | (fail)
         (try simp only [Act.put, List.setIfInBounds_toArray, List.set_cons_zero, List.set_cons_succ])
         go_big_quiet_on))
    refine wpQuiet_nil ?_
    intro w5 hb5
    obtain ⟨w8, hw8⟩ : ∃ w, w = w5 := ⟨_, rfl⟩
    rw [← hw8] at hb5 ⊢
    clear hw8
    have hb8 : Below w7.heap.size w7 w8 := hb5
    have hB8 := hB7.trans (hb8.mono hB7.size)
    have hF8 := hF7.below hb8 hF7.lt
    have hS8 := hS7.below hb8 hS7.lt
    have hG8 := hG7.below hb8 hG7.lt
    have hP8 := hP7.below hb8 hP7.lt
    clear hF7 hS7 hG7 hP7
    go_wp2
    go_ret
    exact ⟨rfl, hB0.trans (hB8.mono hB0.size)⟩
  have heq : (t0.toList == t1.toList) = false := by rw [Bool.eq_false_iff]; exact fun h => hne (toList_inj.1 h)
  have HGA0 := Lib.hid (HOS.out t0 l0 t1 l1 HY0.out HY1.out hne rfl)
  clear hne
  go_wp2
  refine region_calm (by kernel_rfl) (by kernel_rfl) ?_
  repeat (first
    | go_big_quiet_skip
    | (go_big_quiet_want
       apply quiet_at
       · intro w' hw'
         (obtain ⟨e0, e1⟩ := HCT.out _ (by assumption))
         go_simp
         first
           | done
           | exact rfl
           | (fail)
       (try simp only [Act.put, List.setIfInBounds_toArray, List.set_cons_zero, List.set_cons_succ])
       go_big_quiet_on))
  refine wpQuiet_nil ?_
  intro w5 hb5
  obtain ⟨w8, hw8⟩ : ∃ w, w = w5 := ⟨_, rfl⟩
  rw [← hw8] at hb5 ⊢
  clear hw8
  have hb8 : Below w7.heap.size w7 w8 := hb5
  have hB8 := hB7.trans (hb8.mono hB7.size)
  have hF8 := hF7.below hb8 hF7.lt
  have hS8 := hS7.below hb8 hS7.lt
  have hG8 := hG7.below hb8 hG7.lt
  have hP8 := hP7.below hb8 hP7.lt
  clear hF7 hS7 hG7 hP7
  obtain ⟨c0, c1, c2, c3, c4⟩ : w8.cell? ⟨w.heap.size, 0, none⟩ = some (.int .i64 k) ∧ w8.cell? ⟨w.heap.size, 1, none⟩ = some (.int .i64 n) ∧ w8.cell? ⟨w.heap.size, 2, none⟩ = some (.string s) ∧ w8.cell? ⟨w.heap.size, 3, none⟩ = some (.slice An ns.length cn) ∧ w8.cell? ⟨w.heap.size, 4, none⟩ = some (.slice Ai is.length ci) := ⟨hF8.cell 0, hF8.cell 1, hF8.cell 2, hF8.cell 3, hF8.cell 4⟩
  obtain ⟨d0, d1⟩ : w8.cell? ⟨w.heap.size + 1, 0, none⟩ = some (.string s0) ∧ w8.cell? ⟨w.heap.size + 1, 1, none⟩ = some (.string s1) := ⟨hS8.cell 0, hS8.cell 1⟩
  have HGC := Lib.hid (HGV.out w8 hB8)
  go_wp2_with fail
  (with_reducible refine (HGC.out).mono ?_)
  rintro e w9 ⟨⟨z, he, hz4, hzj4⟩, hb9⟩
  have hB9 := hB8.trans (hb9.mono hB8.size)
  have hF9 := hF8.below hb9 hF8.lt
  have hS9 := hS8.below hb9 hS8.lt
  have hG9 := hG8.below hb9 hG8.lt
  have hP9 := hP8.below hb9 hP8.lt
  clear hF8 hS8 hG8 hP8
  clear c0 c1 c2 c3 c4
  clear d0 d1
  obtain ⟨k4, n4, s4, An4, ns4, cn4, Ai4, is4, ci4⟩ := z
  have he' : e = .returned (.tuple #[.agg #[.int .i64 k4, .int .i64 n4, .string s4, .slice An4 ns4.length cn4, .slice Ai4 is4.length ci4], .bool GV.isSome]) := he
  clear he
  subst he'
  have HZJ4 := Lib.hid hzj4
  have HZ4 := Lib.hid hz4
  clear hzj4 hz4 HGC
  go_upto_region 9 with fail
  obtain ⟨w10, hw10⟩ : ∃ w10, w10 = w9.alloc (.cells #[.int .i64 k4, .int .i64 n4, .string s4, .slice An4 ns4.length cn4, .slice Ai4 is4.length ci4] 30) := ⟨_, rfl⟩
  rw [← hw10]
  have hb10 : Below w9.heap.size w9 w10 := by rw [hw10]; exact (Below.refl _ _).alloc (Nat.le_refl _) _
  have hQ10n : Blk w10 w9.heap.size 30 #[.int .i64 k4, .int .i64 n4, .string s4, .slice An4 ns4.length cn4, .slice Ai4 is4.length ci4] := by rw [hw10]; exact Blk.new w9 _ _
  clear hw10
  have hB10 := hB9.trans (hb10.mono hB9.size)
  have hF10 := hF9.below hb10 hF9.lt
  have hS10 := hS9.below hb10 hS9.lt
  have hG10 := hG9.below hb10 hG9.lt
  have hP10 := hP9.below hb10 hP9.lt
  clear hF9 hS9 hG9 hP9
  have hQ10 := hQ10n
  clear hQ10n
  obtain ⟨gQ, hgQ⟩ : ∃ g, w9.heap.size = g := ⟨_, rfl⟩
  rw [hgQ] at hQ10 ⊢
  clear hgQ
  have HAT4 : Hid (∀ w', Below w10.heap.size w10 w' → (LV.mk k4 n4 s4 An4 ns4 cn4 Ai4 is4 ci4).At w') := Lib.hid fun w' hb => (HZ4.out.below hb10 _).below hb _
  clear HZ4
  have HGA : Hid (Calls Tryd.prog 12 #[.agg #[.int .i64 k3, .int .i64 n3, .string s3, .slice An3 ns3.length cn3, .slice Ai3 is3.length ci3], .string s1] w10 fun e w' => GetRes GV e w' ∧ Below w10.heap.size w10 w') := Lib.hid (by rw [← HGA0.out, ← HZJ3.out]; exact get_any (LV.mk k3 n3 s3 An3 ns3 cn3 Ai3 is3 ci3) s1 w10 (HAT3.out _ (by have h1 := hb8; have h2 := h1.trans (hb9.mono h1.size); have h3 := h2.trans (hb10.mono h2.size); exact h3)) HSZ1.out (HTW.out.below hB10))
  obtain ⟨d0, d1⟩ : w10.cell? ⟨w.heap.size + 1, 0, none⟩ = some (.string s0) ∧ w10.cell? ⟨w.heap.size + 1, 1, none⟩ = some (.string s1) := ⟨hS10.cell 0, hS10.cell 1⟩
  obtain ⟨c0, c1, c2, c3, c4⟩ : w10.cell? ⟨gP, 0, none⟩ = some (.int .i64 k3) ∧ w10.cell? ⟨gP, 1, none⟩ = some (.int .i64 n3) ∧ w10.cell? ⟨gP, 2, none⟩ = some (.string s3) ∧ w10.cell? ⟨gP, 3, none⟩ = some (.slice An3 ns3.length cn3) ∧ w10.cell? ⟨gP, 4, none⟩ = some (.slice Ai3 is3.length ci3) := ⟨hP10.cell 0, hP10.cell 1, hP10.cell 2, hP10.cell 3, hP10.cell 4⟩
  go_wp2_with fail
  (with_reducible refine (HGA.out).mono ?_)
  rintro e w11 ⟨⟨z, he, hz5, hzj5⟩, hb11⟩
  clear c0 c1 c2 c3 c4
  have hB11 := hB10.trans (hb11.mono hB10.size)
  have hF11 := hF10.below hb11 hF10.lt
  have hS11 := hS10.below hb11 hS10.lt
  have hG11 := hG10.below hb11 hG10.lt
  have hP11 := hP10.below hb11 hP10.lt
  have hQ11 := hQ10.below hb11 hQ10.lt
  clear hF10 hS10 hG10 hP10 hQ10
  clear d0 d1
  obtain ⟨k5, n5, s5, An5, ns5, cn5, Ai5, is5, ci5⟩ := z
  have he' : e = .returned (.tuple #[.agg #[.int .i64 k5, .int .i64 n5, .string s5, .slice An5 ns5.length cn5, .slice Ai5 is5.length ci5], .bool GV.isSome]) := he
  clear he
  subst he'
  have HEQ : Hid ((LV.mk k4 n4 s4 An4 ns4 cn4 Ai4 is4 ci4).j = (LV.mk k5 n5 s5 An5 ns5 cn5 Ai5 is5 ci5).j) := Lib.hid (HZJ4.out.trans hzj5.symm)
  have HZ5 := Lib.hid hz5
  clear hzj5 hz5 HGA
  go_upto_region 10 with fail
  obtain ⟨w12, hw12⟩ : ∃ w12, w12 = w11.alloc (.cells #[.int .i64 k5, .int .i64 n5, .string s5, .slice An5 ns5.length cn5, .slice Ai5 is5.length ci5] 30) := ⟨_, rfl⟩
  rw [← hw12]
  have hb12 : Below w11.heap.size w11 w12 := by rw [hw12]; exact (Below.refl _ _).alloc (Nat.le_refl _) _
  have hR12n : Blk w12 w11.heap.size 30 #[.int .i64 k5, .int .i64 n5, .string s5, .slice An5 ns5.length cn5, .slice Ai5 is5.length ci5] := by rw [hw12]; exact Blk.new w11 _ _
  clear hw12
  have hB12 := hB11.trans (hb12.mono hB11.size)
  have hF12 := hF11.below hb12 hF11.lt
  have hS12 := hS11.below hb12 hS11.lt
  have hG12 := hG11.below hb12 hG11.lt
  have hP12 := hP11.below hb12 hP11.lt
  have hQ12 := hQ11.below hb12 hQ11.lt
  clear hF11 hS11 hG11 hP11 hQ11
  have hR12 := hR12n
  clear hR12n
  obtain ⟨gR, hgR⟩ : ∃ g, w11.heap.size = g := ⟨_, rfl⟩
  rw [hgR] at hR12 ⊢
  clear hgR
  have hgg : (GV.isSome == GV.isSome) = true := by simp
  have HSM : Hid (Calls Tryd.prog 14 #[.agg #[.int .i64 k4, .int .i64 n4, .string s4, .slice An4 ns4.length cn4, .slice Ai4 is4.length ci4], .agg #[.int .i64 k5, .int .i64 n5, .string s5, .slice An5 ns5.length cn5, .slice Ai5 is5.length ci5]] w12 fun e w' => BoolIs ((LV.mk k4 n4 s4 An4 ns4 cn4 Ai4 is4 ci4).j = (LV.mk k5 n5 s5 An5 ns5 cn5 Ai5 is5 ci5).j) e ∧ Below w12.heap.size w12 w') := Lib.hid (same_any _ (LV.mk k4 n4 s4 An4 ns4 cn4 Ai4 is4 ci4) (LV.mk k5 n5 s5 An5 ns5 cn5 Ai5 is5 ci5) w12 (Nat.lt_succ_self _) (HAT4.out _ (by have h1 := hb11; have h2 := h1.trans (hb12.mono h1.size); exact h2)) (HZ5.out.below hb12 _))
  obtain ⟨c0, c1, c2, c3, c4⟩ : w12.cell? ⟨gQ, 0, none⟩ = some (.int .i64 k4) ∧ w12.cell? ⟨gQ, 1, none⟩ = some (.int .i64 n4) ∧ w12.cell? ⟨gQ, 2, none⟩ = some (.string s4) ∧ w12.cell? ⟨gQ, 3, none⟩ = some (.slice An4 ns4.length cn4) ∧ w12.cell? ⟨gQ, 4, none⟩ = some (.slice Ai4 is4.length ci4) := ⟨hQ12.cell 0, hQ12.cell 1, hQ12.cell 2, hQ12.cell 3, hQ12.cell 4⟩
  obtain ⟨d0, d1, d2, d3, d4⟩ : w12.cell? ⟨gR, 0, none⟩ = some (.int .i64 k5) ∧ w12.cell? ⟨gR, 1, none⟩ = some (.int .i64 n5) ∧ w12.cell? ⟨gR, 2, none⟩ = some (.string s5) ∧ w12.cell? ⟨gR, 3, none⟩ = some (.slice An5 ns5.length cn5) ∧ w12.cell? ⟨gR, 4, none⟩ = some (.slice Ai5 is5.length ci5) := ⟨hR12.cell 0, hR12.cell 1, hR12.cell 2, hR12.cell 3, hR12.cell 4⟩
  go_wp2_with fail
  (with_reducible refine (HSM.out).mono ?_)
  rintro e w13 ⟨⟨bb, rfl, hbb⟩, hb13⟩
  clear c0 c1 c2 c3 c4 d0 d1 d2 d3 d4
  have hB13 := hB12.trans (hb13.mono hB12.size)
  have hF13 := hF12.below hb13 hF12.lt
  have hS13 := hS12.below hb13 hS12.lt
  have hG13 := hG12.below hb13 hG12.lt
  have hP13 := hP12.below hb13 hP12.lt
  have hQ13 := hQ12.below hb13 hQ12.lt
  have hR13 := hR12.below hb13 hR12.lt
  clear hF12 hS12 hG12 hP12 hQ12 hR12
  have hbt := hbb.2 HEQ.out
  subst hbt
  clear hbb
  go_wp2
  go_ret
  exact ⟨rfl, hB0.trans (hB13.mono hB0.size)⟩

theorem array2t {α : Type} {a : Array α} (h : a.size = 2) : ∃ x y, a = #[x, y] := by
  rcases a with ⟨l⟩
  match l, h with
  | [x, y], _ => exact ⟨x, y, rfl⟩
/-- Two texts that came in. -/
theorem strs2_in {H : Type} {enc : TypeId × Value → H} {W : World} {base b0 : Nat} {spare : Nat → Bool} {held : Bool} {r : Reach} {v : Value} {d : DataW H} {p : List MemPlace}
    (hv : Value.okWide Tryd.prog W r b0 39 v) (h : DataW.Trod enc Tryd.prog W base spare held 39 v d p) :
    ∃ x y : ByteArray, v = .agg #[.string x, .string y] := by
  have hu := Tryd.underlying39
  obtain ⟨cs, rfl, hsz⟩ : ∃ cs : Array Value, v = .agg cs ∧ cs.size = 2 := by
    simp only [Value.okWide, hu] at hv
    obtain ⟨cs, h1, h2, _⟩ := hv
    exact ⟨cs, h1, h2.trans (by kernel_rfl)⟩
  obtain ⟨c0, c1, rfl⟩ := array2t hsz
  obtain ⟨fuel, hf⟩ := h
  obtain ⟨xs, m, _, _, _, hxl, hat⟩ := DataW.trod_array hu hf
  have ci : Tryd.prog.cellsOf 9 = 1 := by kernel_rfl
  rw [ci] at hat
  have h0 := hat 0 (by decide)
  have h1 := hat 1 (by decide)
  rw [List.getElem?_eq_getElem (by omega)] at h0 h1
  obtain ⟨x, ex, _, wx⟩ := DataW.trod_string Tryd.underlying9 h0
  obtain ⟨y, ey, _, wy⟩ := DataW.trod_string Tryd.underlying9 h1
  simp [Value.cells] at ex ey
  subst ex ey
  exact ⟨x, y, rfl⟩
end Go.Proofs.YtkjjafijmpacpaaDoor
