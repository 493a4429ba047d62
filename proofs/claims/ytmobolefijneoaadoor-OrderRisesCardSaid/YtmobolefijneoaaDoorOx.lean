/-
  slices.insertionSortCmpFunc.
-/
import Derived.Test.YtmobolefijneoaaDoorOn
import Derived.Test.YtmobolefijneoaaDoorCl
import Derived.LoopTactic
import Derived.StillTailTactics
import Derived.Deep.Cut
import Derived.Deep.DeepCutAuto
import Derived.BigRegion
set_option linter.unusedVariables false
namespace Go.Proofs.YtmobolefijneoaaDoor
open Go.RowKit Go.Joins Go.Deep

set_option maxHeartbeats 8000000 in
set_option maxRecDepth 100000 in
theorem insert_any (w0 w : World) (g a b L c : Nat) (is : List LV) (A B : Int) (hA : A = a) (hBI : B = b) (hL : L = is.length) (hc : L ≤ c) (hm : L ≤ 1000) (hab : a ≤ b) (hb : b ≤ L) (hR : RowIs w0 g is w) :
    Calls Tryd.prog 52 #[.slice (some ⟨g, 0, none⟩) L c, .int .i64 A, .int .i64 B, .func (.func 23) #[] #[]] w fun e w' =>
      e = .returned (.tuple #[]) ∧ ∃ it, RowIs w0 g it w' ∧ it.length = L ∧ SortOn (LV.js it) a b ∧ Moved (LV.js is) (LV.js it) a b := by
  subst hA hBI
  have hb1 : b ≤ 1000 := by omega
  go_enter Tryd.func52, Tryd.ntmps52
  go_wp2
  go_loopw [8] (fun vi wr => ∃ (i : Nat) (ir : List LV), vi = .int .i64 i ∧ a < i ∧ i ≤ b + 1 ∧ RowIs w0 g ir wr ∧ Hid (L = ir.length) ∧ Hid (SortOn (LV.js ir) a i) ∧ Hid (Moved (LV.js is) (LV.js ir) a b)) (fun vi _ => b + 1 - (RowKit.intOf vi).toNat)
  case atStart => exact ⟨a + 1, is, by go_num, by omega, by omega, hR, Lib.hid hL, Lib.hid (SortOn.few (by omega)), Lib.hid (Moved.refl _ _ _)⟩
  case round =>
    clear hR hL
    obtain ⟨i, ir, rfl, hai, hib, hRr, HLr, HS, HM⟩ := hrel
    by_cases hlt : i < b
    · have hltI : (i : Int) < (b : Int) := by omega
      go_wp2
      go_loopw [9] (fun vj wq2 => ∃ (j : Nat) (ij : List LV), vj = .int .i64 j ∧ a ≤ j ∧ j ≤ i ∧ RowIs w0 g ij wq2 ∧ Hid (L = ij.length) ∧ Hid (InsAt (LV.js ij) a i j) ∧ Hid (Moved (LV.js is) (LV.js ij) a b)) (fun vj _ => (RowKit.intOf vj).toNat)
      case atStart => exact ⟨i, ir, rfl, by omega, Nat.le_refl _, hRr, HLr, Lib.hid (InsAt.start HS.out), HM⟩
      case round =>
        clear hRr HLr HS HM
        obtain ⟨j, ij, rfl, haj, hji, hRj, HLj, HI, HM⟩ := hrel
        have hLj := HLj.out
        by_cases hja : a < j
        · obtain ⟨p, hp⟩ : ∃ p, j = p + 1 := ⟨j - 1, by omega⟩
          have hjaI : (a : Int) < (j : Int) := by omega
          have hpw : IntKind.i64.wrap ((j : Int) - 1) = (p : Int) := by rw [IntKind.wrap_i64]; omega
          have hjl : j < ij.length := by omega
          have hpl : p < ij.length := by omega
          have hjI : (j : Int) < (L : Int) := by omega
          have hpI : (p : Int) < (L : Int) := by omega
          have hj0 : (0 : Int) ≤ (j : Int) := by omega
          have hp0 : (0 : Int) ≤ (p : Int) := by omega
          have HRJ := Lib.hid hRj
          have HCMP0 := Lib.hid (fun w' (hw' : Below wr.heap.size wr w') => hRj.cmp hjl hpl w' hw')
          have HSW0 := Lib.hid (fun w' (hw' : Below wr.heap.size wr w') => ((hRj.below hw').swapped hjl hpl).drew)
          obtain ⟨D, hD⟩ : ∃ D, cmpJ (jat (LV.js ij) j) (jat (LV.js ij) p) = D := ⟨_, rfl⟩
          obtain ⟨x, hx⟩ : ∃ x, nth ij j = x := ⟨_, rfl⟩
          obtain ⟨y, hy⟩ : ∃ y, nth ij p = y := ⟨_, rfl⟩
          rw [hD, hx, hy] at HCMP0
          rw [hx, hy] at HSW0
          obtain ⟨k1, n1, s1, An1, ns1, cn1, Ai1, is1, ci1⟩ := x
          obtain ⟨k2, n2, s2, An2, ns2, cn2, Ai2, is2, ci2⟩ := y
          have HCMP : Hid (∀ w', Below wr.heap.size wr w' → Calls Tryd.prog 23 #[.agg #[.int .i64 k1, .int .i64 n1, .string s1, .slice An1 ns1.length cn1, .slice Ai1 is1.length ci1], .agg #[.int .i64 k2, .int .i64 n2, .string s2, .slice An2 ns2.length cn2, .slice Ai2 is2.length ci2]] w' fun e w'' => e = .returned (.int .i64 D) ∧ Below w'.heap.size w' w'') := HCMP0
          have HF : Hid (∀ w', Below wr.heap.size wr w' → _) := Lib.hid fun w' hw' => (hRj.below hw').five hjl (by rw [hx]; rfl)
          have HG : Hid (∀ w', Below wr.heap.size wr w' → _) := Lib.hid fun w' hw' => (hRj.below hw').five hpl (by rw [hy]; rfl)
          have HX : Hid (j = p + 1 ∧ j < ij.length ∧ p < ij.length ∧ cmpJ (jat (LV.js ij) j) (jat (LV.js ij) p) = D) := Lib.hid ⟨hp, hjl, hpl, hD⟩
          clear hLj hx hy hp hjl hpl hRj hab hD HCMP0
          by_cases hD0 : D < 0
          · go_wp2_with fail
            refine region_calm (by kernel_rfl) (by kernel_rfl) ?_
            repeat (first
              | go_big_quiet_skip
              | (go_big_quiet_want
                 apply quiet_at
                 · intro w' hw'
                   (obtain ⟨⟨c0, c1, c2, c3, c4⟩, f0, f1, f2, f3, f4⟩ := HF.out _ (by assumption); obtain ⟨⟨d0, d1, d2, d3, d4⟩, g0, g1, g2, g3, g4⟩ := HG.out _ (by assumption))
                   go_simp
                   first
                     | done
                     | exact rfl
                     | ((go_at_call 23; refine (HCMP.out _ (by assumption)).mono ?_; rintro e w9 ⟨h1, h2⟩; exact ⟨h1, Below.trans (by assumption) (h2.mono (Below.size (by assumption)))⟩))
                 (try simp only [Act.put, List.setIfInBounds_toArray, List.set_cons_zero, List.set_cons_succ])
                 go_big_quiet_on))
            refine wpQuiet_nil ?_
            intro w5 hb5
            have hb5a : Below wr.heap.size wr w5 := hb5
            obtain ⟨⟨c0, c1, c2, c3, c4⟩, f0, f1, f2, f3, f4⟩ := HF.out _ hb5a
            obtain ⟨⟨d0, d1, d2, d3, d4⟩, g0, g1, g2, g3, g4⟩ := HG.out _ hb5a
            obtain ⟨e0, e1, e2, e3, e4⟩ := past5 (p := j) (r := p) (by have := HX.out; omega) ⟨d0, d1, d2, d3, d4⟩ (.int .i64 k2) (.int .i64 n2) (.string s2) (.slice An2 ns2.length cn2) (.slice Ai2 is2.length ci2)
            have HSW := Lib.hid (HSW0.out _ hb5a)
            clear hb5 hb5a HF HG HCMP HSW0
            go_wp2_with fail
            go_region
            have HW : Hid (RowIs w0 g (swapV ij j p) ((((((((((w5.setCell ⟨g, j * 5, none⟩ (.int .i64 k2)).setCell ⟨g, j * 5 + 1, none⟩ (.int .i64 n2)).setCell ⟨g, j * 5 + 2, none⟩ (.string s2)).setCell ⟨g, j * 5 + 3, none⟩ (.slice An2 ns2.length cn2)).setCell ⟨g, j * 5 + 4, none⟩ (.slice Ai2 is2.length ci2)).setCell ⟨g, p * 5, none⟩ (.int .i64 k1)).setCell ⟨g, p * 5 + 1, none⟩ (.int .i64 n1)).setCell ⟨g, p * 5 + 2, none⟩ (.string s1)).setCell ⟨g, p * 5 + 3, none⟩ (.slice An1 ns1.length cn1)).setCell ⟨g, p * 5 + 4, none⟩ (.slice Ai1 is1.length ci1)).drew) := HSW
            clear HSW
            clear c0 c1 c2 c3 c4 f0 f1 f2 f3 f4 d0 d1 d2 d3 d4 g0 g1 g2 g3 g4 e0 e1 e2 e3 e4
            generalize ((((((((((w5.setCell ⟨g, j * 5, none⟩ (.int .i64 k2)).setCell ⟨g, j * 5 + 1, none⟩ (.int .i64 n2)).setCell ⟨g, j * 5 + 2, none⟩ (.string s2)).setCell ⟨g, j * 5 + 3, none⟩ (.slice An2 ns2.length cn2)).setCell ⟨g, j * 5 + 4, none⟩ (.slice Ai2 is2.length ci2)).setCell ⟨g, p * 5, none⟩ (.int .i64 k1)).setCell ⟨g, p * 5 + 1, none⟩ (.int .i64 n1)).setCell ⟨g, p * 5 + 2, none⟩ (.string s1)).setCell ⟨g, p * 5 + 3, none⟩ (.slice An1 ns1.length cn1)).setCell ⟨g, p * 5 + 4, none⟩ (.slice Ai1 is1.length ci1)).drew = wz at HW ⊢
            go_wp2
            go_roundw
            case measure => have := HX.out; simp [RowKit.intOf]; omega
            case rel =>
              obtain ⟨e1, e2, e3, e4⟩ := HX.out
              have hLj := HLj.out
              refine ⟨p, swapV ij j p, by first | rfl | go_num, by omega, by omega, HW.out, Lib.hid (by rw [swapV_len]; exact HLj.out), Lib.hid ?_, Lib.hid ?_⟩
              · have := HI.out.step (by omega) hji (by rw [js_length]; omega) (by rw [show j - 1 = p by omega, e4]; exact hD0)
                rw [show j - 1 = p by omega] at this
                rw [swapV_js e2 e3]; exact this
              · rw [swapV_js e2 e3]; exact HM.out.trans (Moved.swap (by omega) (by omega) (by omega) (by omega) (by rw [js_length]; omega))
          · go_wp2_with fail
            refine region_calm (by kernel_rfl) (by kernel_rfl) ?_
            repeat (first
              | go_big_quiet_skip
              | (go_big_quiet_want
                 apply quiet_at
                 · intro w' hw'
                   (obtain ⟨⟨c0, c1, c2, c3, c4⟩, f0, f1, f2, f3, f4⟩ := HF.out _ (by assumption); obtain ⟨⟨d0, d1, d2, d3, d4⟩, g0, g1, g2, g3, g4⟩ := HG.out _ (by assumption))
                   go_simp
                   first
                     | done
                     | exact rfl
                     | ((go_at_call 23; refine (HCMP.out _ (by assumption)).mono ?_; rintro e w9 ⟨h1, h2⟩; exact ⟨h1, Below.trans (by assumption) (h2.mono (Below.size (by assumption)))⟩))
                 (try simp only [Act.put, List.setIfInBounds_toArray, List.set_cons_zero, List.set_cons_succ])
                 go_big_quiet_on))
            refine wpQuiet_nil ?_
            intro w5 hb5
            have hb5a : Below wr.heap.size wr w5 := hb5
            have HRN := Lib.hid hb5a
            clear hb5 hb5a
            go_wp2
            go_roundw
            case measure => simp [RowKit.intOf]; omega
            case rel =>
              obtain ⟨e1, e2, e3, e4⟩ := HX.out
              have hLj := HLj.out
              refine ⟨i + 1, ij, by go_num, by omega, by omega, HRJ.out.below HRN.out, HLj, Lib.hid (HI.out.done hji (.inr (by rw [show j - 1 = p by omega, e4]; omega))), HM⟩
        · have hjaI : ¬ (a : Int) < (j : Int) := by omega
          have HRJ := Lib.hid hRj
          clear hRj hLj
          go_wp2_with fail
          go_region
          all_goals go_wp2
          all_goals go_roundw
          case measure => simp [RowKit.intOf]; omega
          case rel => exact ⟨i + 1, ij, by go_num, by omega, by omega, HRJ.out.drew, HLj, Lib.hid (HI.out.done hji (.inl (by omega))), HM⟩
    · have hltI : ¬ (i : Int) < (b : Int) := by omega
      go_wp2
      go_end0
      exact ⟨rfl, ir, hRr, HLr.out.symm, HS.out.mono (Nat.le_refl _) (by omega), HM.out⟩
end Go.Proofs.YtmobolefijneoaaDoor
