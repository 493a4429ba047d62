/-
  OrderNumbers: its walk.
-/
import Derived.Test.YtmobolefijneoaaDoorOe
import Derived.Test.YtmobolefijneoaaDoorOg
import Derived.Test.YtmobolefijneoaaDoorOi
import Derived.Deep.Cut
import Derived.Deep.DeepCutAuto
set_option linter.unusedVariables false
namespace Go.Proofs.YtmobolefijneoaaDoor
open Go.RowKit

/-- What a comparison of two leaves answers. -/
theorem leaf_cmp {k n k2 n2 : Int} {s s2 : ByteArray} (h1 : FormedP (leafV k n s).j 6) (h2 : FormedP (leafV k2 n2 s2).j 6) : cmpX (leafV k n s).j (leafV k2 n2 s2).j = firstNZ [cmpI k k2, cmpI n n2, cmpS s s2] := by
  rw [cmpX, if_pos ⟨h1, h2⟩]
  unfold leafV
  rw [LV.j, LV.j, cmpJ]
  split
  · rfl
  · rename_i h; simp only [LV.js, rowsJ]; simp only [Decidable.not_not] at h; exact h.symm
set_option maxHeartbeats 2000000 in
/-- order.Compare of two leaves. -/
theorem leaf_compare (k n k2 n2 : Int) (s s2 : ByteArray) (X : Int) (w : World) (hT : Tabs w) (hk : 0 ≤ k ∧ k ≤ 4) (hk2 : 0 ≤ k2 ∧ k2 ≤ 4) (hn : -9223372036854775808 ≤ n ∧ n ≤ 9223372036854775807) (hn2 : -9223372036854775808 ≤ n2 ∧ n2 ≤ 9223372036854775807)
    (hs : TextP s) (hs2 : TextP s2) (g : k ≠ 3 → n = 0) (g2 : k2 ≠ 3 → n2 = 0) (e : k ≠ 4 → s = ⟨#[]⟩) (e2 : k2 ≠ 4 → s2 = ⟨#[]⟩) (hX : firstNZ [cmpI k k2, cmpI n n2, cmpS s s2] = X) :
    Calls Tryd.prog 11 #[.agg #[.int .i64 k, .int .i64 n, .string s, .slice none 0 0, .slice none 0 0], .agg #[.int .i64 k2, .int .i64 n2, .string s2, .slice none 0 0, .slice none 0 0]] w fun e w' => e = .returned (.int .i64 X) ∧ Below w.heap.size w w' := by
  have h := oCompare_any (leafV k n s) (leafV k2 n2 s2) w hT (leaf_at w ⟨hk.1, by omega⟩ hn (by have := hs.1; omega)) (leaf_at w ⟨hk2.1, by omega⟩ hn2 (by have := hs2.1; omega))
  rw [leaf_cmp (leaf_formed ⟨hk.1, by omega⟩ g (fun h => by rw [e h]; exact empty_list) hs) (leaf_formed ⟨hk2.1, by omega⟩ g2 (fun h => by rw [e2 h]; exact empty_list) hs2), hX] at h
  exact h

set_option maxRecDepth 8000 in
set_option maxHeartbeats 16000000 in
theorem numbers_walk (a b x0 x1 x2 y0 y1 y2 : Int) (w : World) (hT : Tabs w) (ha : -9223372036854775808 ≤ a ∧ a ≤ 9223372036854775807) (hb : -9223372036854775808 ≤ b ∧ b ≤ 9223372036854775807) (g0 : Byte x0) (g1 : Byte x1) (g2 : Byte x2) (g3 : Byte y0) (g4 : Byte y1) (g5 : Byte y2) :
    Calls Tryd.prog 5 #[.agg #[.int .i64 a, .int .i64 b], .agg #[.int .u8 x0, .int .u8 x1, .int .u8 x2, .int .u8 y0, .int .u8 y1, .int .u8 y2]] w fun e w' => e = .returned (.bool true) ∧ Below w.heap.size w w' := by
  obtain ⟨W, hW⟩ : ∃ W, W = (w.alloc (.cells #[.int .i64 a, .int .i64 b] 32)).alloc (.cells #[.int .u8 x0, .int .u8 x1, .int .u8 x2, .int .u8 y0, .int .u8 y1, .int .u8 y2] 34) := ⟨_, rfl⟩
  have hB0 : Below w.heap.size w W := by rw [hW]; exact ((Below.refl _ _).alloc (Nat.le_refl _) _).alloc (by simp) _
  have hF : Blk W w.heap.size 32 #[.int .i64 a, .int .i64 b] := by rw [hW]; exact (Blk.new w _ _).alloc _
  have hG : Blk W (w.heap.size + 1) 34 #[.int .u8 x0, .int .u8 x1, .int .u8 x2, .int .u8 y0, .int .u8 y1, .int .u8 y2] := by rw [hW]; exact Blk.second w _ _ _
  have HTW := Lib.hid (hT.below hB0)
  have HAW : Hid (∀ w1, Below W.heap.size W w1 → Calls Tryd.prog 9 #[] w1 fun e w' => e = .returned (.bool true) ∧ Below w1.heap.size w1 w') := Lib.hid fun w1 hb => awake03_any w1 (HTW.out.below hb)
  have HL1 : Hid (∀ w1, Calls Tryd.prog 15 #[.agg #[.int .u8 x0, .int .u8 x1, .int .u8 x2]] w1 fun e w' => e = .returned (.string (strOfNums (letL [x0, x1, x2]))) ∧ Below w1.heap.size w1 w') := Lib.hid fun w1 => letters_any x0 x1 x2 w1 g0 g1 g2
  have HL2 : Hid (∀ w1, Calls Tryd.prog 15 #[.agg #[.int .u8 y0, .int .u8 y1, .int .u8 y2]] w1 fun e w' => e = .returned (.string (strOfNums (letL [y0, y1, y2]))) ∧ Below w1.heap.size w1 w') := Lib.hid fun w1 => letters_any y0 y1 y2 w1 g3 g4 g5
  obtain ⟨p, hp⟩ : ∃ p, strOfNums (letL [x0, x1, x2]) = p := ⟨_, rfl⟩
  obtain ⟨q, hq⟩ : ∃ q, strOfNums (letL [y0, y1, y2]) = q := ⟨_, rfl⟩
  have HPT := Lib.hid (letL_text x0 x1 x2)
  have HQT := Lib.hid (letL_text y0 y1 y2)
  rw [hp] at HL1 HPT
  rw [hq] at HL2 HQT
  have HA := Lib.hid ha
  have HB := Lib.hid hb
  have HW := Lib.hid hW
  have lF := hF.lt
  have lG := hG.lt
  clear hW hT hp hq ha hb g0 g1 g2 g3 g4 g5
  go_enter Tryd.func5, Tryd.ntmps5
  go_wp2_with fail
  rw [← HW.out]
  refine (HAW.out W (Below.refl _ _)).mono ?_
  rintro e w1 ⟨rfl, hb1⟩
  have hF1 := hF.below hb1 lF
  have hG1 := hG.below hb1 lG
  obtain ⟨c0, c1⟩ : w1.cell? ⟨w.heap.size, 0, none⟩ = some (.int .i64 a) ∧ w1.cell? ⟨w.heap.size, 1, none⟩ = some (.int .i64 b) := ⟨hF1.cell 0, hF1.cell 1⟩
  obtain ⟨d0, d1, d2, d3, d4, d5⟩ : w1.cell? ⟨w.heap.size + 1, 0, none⟩ = some (.int .u8 x0) ∧ w1.cell? ⟨w.heap.size + 1, 1, none⟩ = some (.int .u8 x1) ∧ w1.cell? ⟨w.heap.size + 1, 2, none⟩ = some (.int .u8 x2) ∧ w1.cell? ⟨w.heap.size + 1, 3, none⟩ = some (.int .u8 y0) ∧ w1.cell? ⟨w.heap.size + 1, 4, none⟩ = some (.int .u8 y1) ∧ w1.cell? ⟨w.heap.size + 1, 5, none⟩ = some (.int .u8 y2) := ⟨hG1.cell 0, hG1.cell 1, hG1.cell 2, hG1.cell 3, hG1.cell 4, hG1.cell 5⟩
  have l0 := hF1.lt
  have l1 := hG1.lt
  go_upto_region 3 with fail
  go_cut [5, 6, 7, 8] (fun s5 s6 s7 s8 wx => s5 = .int .i64 a ∧ s6 = .int .i64 b ∧ ∃ g h, s7 = .pointer (some ⟨g, 0, none⟩) ∧ s8 = .pointer (some ⟨h, 0, none⟩) ∧ Blk wx g 33 #[.int .u8 x0, .int .u8 x1, .int .u8 x2] ∧ Blk wx h 33 #[.int .u8 y0, .int .u8 y1, .int .u8 y2] ∧ Below W.heap.size W wx)
  case first =>
    go_region
    all_goals (go_wp2_with fail; go_meet)
    all_goals
      case rel =>
        first
          | exact ⟨rfl, rfl, w1.heap.size, w1.heap.size + 1, rfl, rfl, ((Blk.new w1 _ _).alloc _).drew, (Blk.second w1 _ _ _).drew, ((hb1.alloc hb1.size _).alloc (by have := hb1.size; simp; omega) _).drew⟩
          | exact ⟨rfl, rfl, w1.heap.size + 1, w1.heap.size, rfl, rfl, (Blk.second w1 _ _ _).drew, ((Blk.new w1 _ _).alloc _).drew, ((hb1.alloc hb1.size _).alloc (by have := hb1.size; simp; omega) _).drew⟩
  case rest =>
    obtain ⟨rfl, rfl, g, h, rfl, rfl, hP, hQ, hB2⟩ := hcut
    clear c0 c1 d0 d1 d2 d3 d4 d5 l0 l1 hF1 hG1 hb1
    go_upto_region 5 with fail
    obtain ⟨W5, hW5⟩ : ∃ W5, W5 = (wc.alloc (.cells #[.int .i64 3, .int .i64 a, .string ⟨#[]⟩, .slice none 0 0, .slice none 0 0] 25)).alloc (.cells #[.int .i64 3, .int .i64 b, .string ⟨#[]⟩, .slice none 0 0, .slice none 0 0] 25) := ⟨_, rfl⟩
    rw [← hW5]
    have hP5 : Blk W5 g 33 #[.int .u8 x0, .int .u8 x1, .int .u8 x2] := by rw [hW5]; exact (hP.alloc _).alloc _
    have hQ5 : Blk W5 h 33 #[.int .u8 y0, .int .u8 y1, .int .u8 y2] := by rw [hW5]; exact (hQ.alloc _).alloc _
    have hX5 : Blk W5 wc.heap.size 25 #[.int .i64 3, .int .i64 a, .string ⟨#[]⟩, .slice none 0 0, .slice none 0 0] := by rw [hW5]; exact (Blk.new wc _ _).alloc _
    have hY5 : Blk W5 (wc.heap.size + 1) 25 #[.int .i64 3, .int .i64 b, .string ⟨#[]⟩, .slice none 0 0, .slice none 0 0] := by rw [hW5]; exact Blk.second wc _ _ _
    have hB5 : Below W.heap.size W W5 := by rw [hW5]; exact (hB2.alloc hB2.size _).alloc (by have := hB2.size; simp; omega) _
    clear hP hQ hB2 hW5
    generalize wc.heap.size = gx at *
    have HS : Hid (∀ w', Calm W5 w' → (w'.cell? ⟨g, 0, none⟩ = some (.int .u8 x0) ∧ w'.cell? ⟨g, 1, none⟩ = some (.int .u8 x1) ∧ w'.cell? ⟨g, 2, none⟩ = some (.int .u8 x2)) ∧ w'.cell? ⟨h, 0, none⟩ = some (.int .u8 y0) ∧ w'.cell? ⟨h, 1, none⟩ = some (.int .u8 y1) ∧ w'.cell? ⟨h, 2, none⟩ = some (.int .u8 y2)) := Lib.hid fun w' hw' => by
      have e1 := hP5.below hw' hP5.lt
      have e2 := hQ5.below hw' hQ5.lt
      exact ⟨⟨e1.cell 0, e1.cell 1, e1.cell 2⟩, e2.cell 0, e2.cell 1, e2.cell 2⟩
    refine region_calm (by kernel_rfl) (by kernel_rfl) ?_
    repeat (first
      | go_big_quiet_skip
      | (go_big_quiet_want
         apply quiet_at
         · intro w' hw'
           (obtain ⟨⟨c0, c1, c2⟩, d0, d1, d2⟩ := HS.out _ (by assumption))
           go_simp
           first
             | done
             | exact rfl
             | ((first | (go_at_call 15; (with_reducible refine (HL1.out _).mono ?_); rintro e w9 ⟨h1, h2⟩; exact ⟨h1, Below.trans (by assumption) (h2.mono (Below.size (by assumption)))⟩) | (go_at_call 15; (with_reducible refine (HL2.out _).mono ?_); rintro e w9 ⟨h1, h2⟩; exact ⟨h1, Below.trans (by assumption) (h2.mono (Below.size (by assumption)))⟩)))
         (try simp only [Act.put, List.setIfInBounds_toArray, List.set_cons_zero, List.set_cons_succ])
         go_big_quiet_on))
    refine wpQuiet_nil ?_
    intro w5 hb5
    have hX6 := hX5.below hb5 hX5.lt
    have hY6 := hY5.below hb5 hY5.lt
    have hB6 := hB5.trans (Below.mono hb5 hB5.size)
    clear HS hP5 hQ5 hX5 hY5 hB5 hb5 HL1 HL2
    go_upto_region 7 with fail
    obtain ⟨W6, hW6⟩ : ∃ W6, W6 = (w5.alloc (.cells #[.int .i64 4, .int .i64 0, .string p, .slice none 0 0, .slice none 0 0] 25)).alloc (.cells #[.int .i64 4, .int .i64 0, .string q, .slice none 0 0, .slice none 0 0] 25) := ⟨_, rfl⟩
    rw [← hW6]
    have hX7 : Blk W6 gx 25 #[.int .i64 3, .int .i64 a, .string ⟨#[]⟩, .slice none 0 0, .slice none 0 0] := by rw [hW6]; exact (hX6.alloc _).alloc _
    have hY7 : Blk W6 (gx + 1) 25 #[.int .i64 3, .int .i64 b, .string ⟨#[]⟩, .slice none 0 0, .slice none 0 0] := by rw [hW6]; exact (hY6.alloc _).alloc _
    have hU7 : Blk W6 w5.heap.size 25 #[.int .i64 4, .int .i64 0, .string p, .slice none 0 0, .slice none 0 0] := by rw [hW6]; exact (Blk.new w5 _ _).alloc _
    have hV7 : Blk W6 (w5.heap.size + 1) 25 #[.int .i64 4, .int .i64 0, .string q, .slice none 0 0, .slice none 0 0] := by rw [hW6]; exact Blk.second w5 _ _ _
    have hB7 : Below W.heap.size W W6 := by rw [hW6]; exact (hB6.alloc hB6.size _).alloc (by have := hB6.size; simp; omega) _
    clear hX6 hY6 hB6 hW6
    generalize w5.heap.size = gu at *
    have HS : Hid (∀ w', Below W6.heap.size W6 w' → (w'.cell? ⟨gx, 0, none⟩ = some (.int .i64 3) ∧ w'.cell? ⟨gx, 1, none⟩ = some (.int .i64 a) ∧ w'.cell? ⟨gx, 2, none⟩ = some (.string ⟨#[]⟩) ∧ w'.cell? ⟨gx, 3, none⟩ = some (.slice none 0 0) ∧ w'.cell? ⟨gx, 4, none⟩ = some (.slice none 0 0)) ∧ (w'.cell? ⟨gx + 1, 0, none⟩ = some (.int .i64 3) ∧ w'.cell? ⟨gx + 1, 1, none⟩ = some (.int .i64 b) ∧ w'.cell? ⟨gx + 1, 2, none⟩ = some (.string ⟨#[]⟩) ∧ w'.cell? ⟨gx + 1, 3, none⟩ = some (.slice none 0 0) ∧ w'.cell? ⟨gx + 1, 4, none⟩ = some (.slice none 0 0)) ∧ (w'.cell? ⟨gu, 0, none⟩ = some (.int .i64 4) ∧ w'.cell? ⟨gu, 1, none⟩ = some (.int .i64 0) ∧ w'.cell? ⟨gu, 2, none⟩ = some (.string p) ∧ w'.cell? ⟨gu, 3, none⟩ = some (.slice none 0 0) ∧ w'.cell? ⟨gu, 4, none⟩ = some (.slice none 0 0)) ∧ w'.cell? ⟨gu + 1, 0, none⟩ = some (.int .i64 4) ∧ w'.cell? ⟨gu + 1, 1, none⟩ = some (.int .i64 0) ∧ w'.cell? ⟨gu + 1, 2, none⟩ = some (.string q) ∧ w'.cell? ⟨gu + 1, 3, none⟩ = some (.slice none 0 0) ∧ w'.cell? ⟨gu + 1, 4, none⟩ = some (.slice none 0 0)) := Lib.hid fun w' hw' => by
      have e1 := hX7.below hw' hX7.lt
      have e2 := hY7.below hw' hY7.lt
      have e3 := hU7.below hw' hU7.lt
      have e4 := hV7.below hw' hV7.lt
      exact ⟨⟨e1.cell 0, e1.cell 1, e1.cell 2, e1.cell 3, e1.cell 4⟩, ⟨e2.cell 0, e2.cell 1, e2.cell 2, e2.cell 3, e2.cell 4⟩, ⟨e3.cell 0, e3.cell 1, e3.cell 2, e3.cell 3, e3.cell 4⟩, e4.cell 0, e4.cell 1, e4.cell 2, e4.cell 3, e4.cell 4⟩
    have HBW : Hid (∀ w', Below W6.heap.size W6 w' → Below W.heap.size W w') := Lib.hid fun w' hw' => hB7.trans (hw'.mono hB7.size)
    have eS : cmpS ⟨#[]⟩ ⟨#[]⟩ = 0 := cmpS_empty empty_list empty_list
    obtain ⟨N, hN⟩ : ∃ c, cmpI a b = c := ⟨_, rfl⟩
    obtain ⟨M, hM⟩ : ∃ c, cmpS p q = c := ⟨_, rfl⟩
    have HN := Lib.hid (cmpI_cases a b)
    have HM := Lib.hid (cmpS_cases p q)
    rw [hN] at HN
    rw [hM] at HM
    have K1 : Hid (∀ w', Below W6.heap.size W6 w' → Calls Tryd.prog 11 #[.agg #[.int .i64 3, .int .i64 a, .string ⟨#[]⟩, .slice none 0 0, .slice none 0 0], .agg #[.int .i64 3, .int .i64 b, .string ⟨#[]⟩, .slice none 0 0, .slice none 0 0]] w' fun e w'' => e = .returned (.int .i64 N) ∧ Below w'.heap.size w' w'') := Lib.hid fun w' hw' => leaf_compare 3 a 3 b ⟨#[]⟩ ⟨#[]⟩ N w' (HTW.out.below (HBW.out _ hw')) (by omega) (by omega) HA.out HB.out text_empty text_empty (fun h => absurd rfl h) (fun h => absurd rfl h) (fun _ => rfl) (fun _ => rfl) (by rw [hN, eS, cmpI_self]; simp only [firstNZ]; split <;> simp_all)
    have K2 : Hid (∀ w', Below W6.heap.size W6 w' → Calls Tryd.prog 11 #[.agg #[.int .i64 4, .int .i64 0, .string p, .slice none 0 0, .slice none 0 0], .agg #[.int .i64 4, .int .i64 0, .string q, .slice none 0 0, .slice none 0 0]] w' fun e w'' => e = .returned (.int .i64 M) ∧ Below w'.heap.size w' w'') := Lib.hid fun w' hw' => leaf_compare 4 0 4 0 p q M w' (HTW.out.below (HBW.out _ hw')) (by omega) (by omega) (by omega) (by omega) HPT.out HQT.out (fun _ => rfl) (fun _ => rfl) (fun h => absurd rfl h) (fun h => absurd rfl h) (by rw [hM, cmpI_self, cmpI_self]; simp only [firstNZ]; split <;> simp_all)
    have K3 : Hid (∀ w', Below W6.heap.size W6 w' → Calls Tryd.prog 11 #[.agg #[.int .i64 3, .int .i64 a, .string ⟨#[]⟩, .slice none 0 0, .slice none 0 0], .agg #[.int .i64 4, .int .i64 0, .string p, .slice none 0 0, .slice none 0 0]] w' fun e w'' => e = .returned (.int .i64 (-1)) ∧ Below w'.heap.size w' w'') := Lib.hid fun w' hw' => leaf_compare 3 a 4 0 ⟨#[]⟩ p (-1) w' (HTW.out.below (HBW.out _ hw')) (by omega) (by omega) HA.out (by omega) text_empty HPT.out (fun h => absurd rfl h) (fun _ => rfl) (fun _ => rfl) (fun h => absurd rfl h) (by simp [firstNZ, cmpI])
    have K4 : Hid (∀ w', Below W6.heap.size W6 w' → Calls Tryd.prog 11 #[.agg #[.int .i64 0, .int .i64 0, .string ⟨#[]⟩, .slice none 0 0, .slice none 0 0], .agg #[.int .i64 3, .int .i64 a, .string ⟨#[]⟩, .slice none 0 0, .slice none 0 0]] w' fun e w'' => e = .returned (.int .i64 (-1)) ∧ Below w'.heap.size w' w'') := Lib.hid fun w' hw' => leaf_compare 0 0 3 a ⟨#[]⟩ ⟨#[]⟩ (-1) w' (HTW.out.below (HBW.out _ hw')) (by omega) (by omega) (by omega) HA.out text_empty text_empty (fun _ => rfl) (fun h => absurd rfl h) (fun _ => rfl) (fun _ => rfl) (by simp [firstNZ, cmpI])
    have K5 : Hid (∀ w', Below W6.heap.size W6 w' → Calls Tryd.prog 11 #[.agg #[.int .i64 1, .int .i64 0, .string ⟨#[]⟩, .slice none 0 0, .slice none 0 0], .agg #[.int .i64 3, .int .i64 a, .string ⟨#[]⟩, .slice none 0 0, .slice none 0 0]] w' fun e w'' => e = .returned (.int .i64 (-1)) ∧ Below w'.heap.size w' w'') := Lib.hid fun w' hw' => leaf_compare 1 0 3 a ⟨#[]⟩ ⟨#[]⟩ (-1) w' (HTW.out.below (HBW.out _ hw')) (by omega) (by omega) (by omega) HA.out text_empty text_empty (fun _ => rfl) (fun h => absurd rfl h) (fun _ => rfl) (fun _ => rfl) (by simp [firstNZ, cmpI])
    have K6 : Hid (∀ w', Below W6.heap.size W6 w' → Calls Tryd.prog 11 #[.agg #[.int .i64 2, .int .i64 0, .string ⟨#[]⟩, .slice none 0 0, .slice none 0 0], .agg #[.int .i64 4, .int .i64 0, .string p, .slice none 0 0, .slice none 0 0]] w' fun e w'' => e = .returned (.int .i64 (-1)) ∧ Below w'.heap.size w' w'') := Lib.hid fun w' hw' => leaf_compare 2 0 4 0 ⟨#[]⟩ p (-1) w' (HTW.out.below (HBW.out _ hw')) (by omega) (by omega) (by omega) (by omega) text_empty HPT.out (fun _ => rfl) (fun _ => rfl) (fun _ => rfl) (fun h => absurd rfl h) (by simp [firstNZ, cmpI])
    clear eS hN hM hX7 hY7 hU7 hV7 hB7
    rcases HN.out with ⟨hab, rfl⟩ | ⟨hab, rfl⟩ | ⟨rfl, rfl⟩ <;> rcases HM.out with ⟨hpq, rfl⟩ | ⟨hpq, _, rfl⟩ | ⟨hpq, _, rfl⟩
    all_goals
      clear HN HM
      obtain ⟨⟨c0, c1, c2, c3, c4⟩, ⟨d0, d1, d2, d3, d4⟩, ⟨e0, e1, e2, e3, e4⟩, f0, f1, f2, f3, f4⟩ := HS.out W6 (Below.refl _ _)
      go_wp2_with fail
      refine (K1.out W6 (Below.refl _ _)).mono ?_
      rintro e v1 ⟨rfl, hv1⟩
      clear c0 c1 c2 c3 c4 d0 d1 d2 d3 d4 e0 e1 e2 e3 e4 f0 f1 f2 f3 f4
      have hh1 : Below W6.heap.size W6 v1 := hv1
      obtain ⟨⟨c0, c1, c2, c3, c4⟩, ⟨d0, d1, d2, d3, d4⟩, ⟨e0, e1, e2, e3, e4⟩, f0, f1, f2, f3, f4⟩ := HS.out v1 hh1
      go_wp2_with fail
      refine (K2.out v1 hh1).mono ?_
      rintro e v2 ⟨rfl, hv2⟩
      clear c0 c1 c2 c3 c4 d0 d1 d2 d3 d4 e0 e1 e2 e3 e4 f0 f1 f2 f3 f4
      have hh2 : Below W6.heap.size W6 v2 := hh1.trans (hv2.mono hh1.size)
      obtain ⟨⟨c0, c1, c2, c3, c4⟩, ⟨d0, d1, d2, d3, d4⟩, ⟨e0, e1, e2, e3, e4⟩, f0, f1, f2, f3, f4⟩ := HS.out v2 hh2
      go_wp2_with fail
      refine (K3.out v2 hh2).mono ?_
      rintro e v3 ⟨rfl, hv3⟩
      clear c0 c1 c2 c3 c4 d0 d1 d2 d3 d4 e0 e1 e2 e3 e4 f0 f1 f2 f3 f4
      have hh3 : Below W6.heap.size W6 v3 := hh2.trans (hv3.mono hh2.size)
      obtain ⟨⟨c0, c1, c2, c3, c4⟩, ⟨d0, d1, d2, d3, d4⟩, ⟨e0, e1, e2, e3, e4⟩, f0, f1, f2, f3, f4⟩ := HS.out v3 hh3
      go_wp2_with fail
      refine (K4.out v3 hh3).mono ?_
      rintro e v4 ⟨rfl, hv4⟩
      clear c0 c1 c2 c3 c4 d0 d1 d2 d3 d4 e0 e1 e2 e3 e4 f0 f1 f2 f3 f4
      have hh4 : Below W6.heap.size W6 v4 := hh3.trans (hv4.mono hh3.size)
      obtain ⟨⟨c0, c1, c2, c3, c4⟩, ⟨d0, d1, d2, d3, d4⟩, ⟨e0, e1, e2, e3, e4⟩, f0, f1, f2, f3, f4⟩ := HS.out v4 hh4
      go_wp2_with fail
      refine (K5.out v4 hh4).mono ?_
      rintro e v5 ⟨rfl, hv5⟩
      clear c0 c1 c2 c3 c4 d0 d1 d2 d3 d4 e0 e1 e2 e3 e4 f0 f1 f2 f3 f4
      have hh5 : Below W6.heap.size W6 v5 := hh4.trans (hv5.mono hh4.size)
      obtain ⟨⟨c0, c1, c2, c3, c4⟩, ⟨d0, d1, d2, d3, d4⟩, ⟨e0, e1, e2, e3, e4⟩, f0, f1, f2, f3, f4⟩ := HS.out v5 hh5
      go_wp2_with fail
      refine (K6.out v5 hh5).mono ?_
      rintro e v6 ⟨rfl, hv6⟩
      clear c0 c1 c2 c3 c4 d0 d1 d2 d3 d4 e0 e1 e2 e3 e4 f0 f1 f2 f3 f4
      have hh6 : Below W6.heap.size W6 v6 := hh5.trans (hv6.mono hh5.size)
      go_wp2
      go_ret
      exact ⟨rfl, hB0.trans ((HBW.out _ hh6).mono hB0.size)⟩
end Go.Proofs.YtmobolefijneoaaDoor
