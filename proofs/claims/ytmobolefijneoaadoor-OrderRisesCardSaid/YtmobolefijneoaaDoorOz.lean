/-
  slices.symMergeCmpFunc: the second part is one value.
-/
import Derived.Test.YtmobolefijneoaaDoorOy
set_option linter.unusedVariables false
namespace Go.Proofs.YtmobolefijneoaaDoor
open Go.RowKit Go.Joins Go.Deep

set_option maxHeartbeats 8000000 in
set_option maxRecDepth 100000 in
/-- The second part is one value. -/
theorem merge_down (w0 w : World) (g a m b L c : Nat) (is : List LV) (A M B : Int) (hA : A = a) (hMI : M = m) (hBI : B = b) (hL : L = is.length) (hc : L ≤ c) (hm : L ≤ 1000) (ham : a + 1 < m) (hmb : b = m + 1) (hb : b ≤ L) (hR : RowIs w0 g is w)
    (h2 : SortOn (LV.js is) a m) :
    Calls Tryd.prog 53 #[.slice (some ⟨g, 0, none⟩) L c, .int .i64 A, .int .i64 M, .int .i64 B, .func (.func 23) #[] #[]] w (MergeRes w0 g a b L is) := by
  have hb1 : b ≤ 1000 := by omega
  subst hA hMI hBI
  have H2 := Lib.hid h2
  have HAM := Lib.hid ham
  have HBL := Lib.hid hb
  have HLL := Lib.hid hL
  have hma : ¬ (m : Int) - (a : Int) = 1 := by omega
  have hmaB : ((m : Int) - (a : Int) == 1) = false := by rw [beq_eq_false_iff_ne]; exact hma
  have hmb2 : (b : Int) - (m : Int) = 1 := by omega
  have HMB := Lib.hid hmb
  have hmb3 : m < b := by omega
  clear h2 hb hL hmb
  go_enter Tryd.func53, Tryd.ntmps53
  go_wp2
  clear hma hmb2
  go_loopw [14, 15] (fun vi vj wr => ∃ i j : Nat, vi = .int .i64 i ∧ vj = .int .i64 j ∧ i ≤ j ∧ j ≤ m ∧ a ≤ i ∧ RowIs w0 g is wr ∧ Hid (OneDown (LV.js is) a m i j)) (fun vi vj _ => (RowKit.intOf vj - RowKit.intOf vi).toNat)
  case atStart => exact ⟨a, m, rfl, rfl, by omega, Nat.le_refl _, Nat.le_refl _, hR, Lib.hid ⟨Nat.le_refl _, by omega, Nat.le_refl _, .inl rfl, .inl rfl⟩⟩
  case round =>
    obtain ⟨i, j, rfl, rfl, hij, hjb, hmi, hRr, HO⟩ := hrel
    by_cases hlt : i < j
    · have hltI : (i : Int) < (j : Int) := by omega
      obtain ⟨h, hh⟩ : ∃ h : Nat, h = (i + j) / 2 := ⟨_, rfl⟩
      have HMI : Hid (((i : Int) + (j : Int)) / 2 = (h : Int)) := Lib.hid (by omega)
      have HMM : Hid (i ≤ h ∧ h < j) := Lib.hid (by omega)
      clear hh
      have hLis := HLL.out
      have hpl : h < is.length := by have := HMM.out; have := HBL.out; omega
      have hrl : m < is.length := by have := HBL.out; omega
      have hhI : (h : Int) < (L : Int) := by omega
      have haI : (m : Int) < (L : Int) := by have := HBL.out; omega
      have hh0 : (0 : Int) ≤ (h : Int) := by omega
      have ha0 : (0 : Int) ≤ (m : Int) := by omega
      obtain ⟨D, hD⟩ : ∃ D, cmpJ (jat (LV.js is) m) (jat (LV.js is) h) = D := ⟨_, rfl⟩
      have HCMP0 := Lib.hid (fun w' (hw' : Below wr.heap.size wr w') => hRr.cmp hrl hpl w' hw')
      obtain ⟨x, hx⟩ : ∃ x, nth is m = x := ⟨_, rfl⟩
      obtain ⟨y, hy⟩ : ∃ y, nth is h = y := ⟨_, rfl⟩
      rw [hD, hx, hy] at HCMP0
      obtain ⟨k1, n1, s1, An1, ns1, cn1, Ai1, is1, ci1⟩ := x
      obtain ⟨k2, n2, s2, An2, ns2, cn2, Ai2, is2, ci2⟩ := y
      have HCMP : Hid (∀ w', Below wr.heap.size wr w' → Calls Tryd.prog 23 #[.agg #[.int .i64 k1, .int .i64 n1, .string s1, .slice An1 ns1.length cn1, .slice Ai1 is1.length ci1], .agg #[.int .i64 k2, .int .i64 n2, .string s2, .slice An2 ns2.length cn2, .slice Ai2 is2.length ci2]] w' fun e w'' => e = .returned (.int .i64 D) ∧ Below w'.heap.size w' w'') := HCMP0
      have HF : Hid (∀ w', Below wr.heap.size wr w' → _) := Lib.hid fun w' hw' => (hRr.below hw').five hrl (by rw [hx]; rfl)
      have HG : Hid (∀ w', Below wr.heap.size wr w' → _) := Lib.hid fun w' hw' => (hRr.below hw').five hpl (by rw [hy]; rfl)
      have HD := Lib.hid hD
      have HRR := Lib.hid hRr
      clear hpl hrl hLis hR hx hy hD HCMP0 hRr
      by_cases hD0 : D < 0
      · have hDb : decide (D < 0) = true := decide_eq_true hD0
        go_wp2_with fail
        rw [HMI.out]
        refine region_calm (by kernel_rfl) (by kernel_rfl) ?_
        repeat (first
          | go_big_quiet_skip
          | (go_big_quiet_want
             apply quiet_at
             · intro w' hw'
               (obtain ⟨⟨c0, c1, c2, c3, c4⟩, f0, f1, f2, f3, f4⟩ := HF.out _ (by assumption); obtain ⟨⟨d0, d1, d2, d3, d4⟩, g0, g1, g2, g3, g4⟩ := HG.out _ (by assumption))
               go_simp
               first
                 | done
                 | exact rfl
                 | ((go_at_call 23; refine (HCMP.out _ (by assumption)).mono ?_; rintro e w9 ⟨h1, h2⟩; exact ⟨h1, Below.trans (by assumption) (h2.mono (Below.size (by assumption)))⟩))
             (try simp only [Act.put, List.setIfInBounds_toArray, List.set_cons_zero, List.set_cons_succ])
             go_big_quiet_on))
        refine wpQuiet_nil ?_
        intro w5 hb5
        have hb5a : Below wr.heap.size wr w5 := hb5
        have HRN := Lib.hid (HRR.out.below hb5a)
        clear hb5 hb5a
        go_wp2
        go_roundw
        case measure => have := HMM.out; simp [RowKit.intOf]; omega
        case rel => exact ⟨i, h, rfl, rfl, by have := HMM.out; omega, by have := HMM.out; omega, hmi, HRN.out, Lib.hid ⟨hmi, by have := HMM.out; omega, by have := HMM.out; omega, HO.out.2.2.2.1, .inr (by rw [HD.out]; exact hD0)⟩⟩
      · have hDb : decide (D < 0) = false := decide_eq_false hD0
        go_wp2_with fail
        rw [HMI.out]
        refine region_calm (by kernel_rfl) (by kernel_rfl) ?_
        repeat (first
          | go_big_quiet_skip
          | (go_big_quiet_want
             apply quiet_at
             · intro w' hw'
               (obtain ⟨⟨c0, c1, c2, c3, c4⟩, f0, f1, f2, f3, f4⟩ := HF.out _ (by assumption); obtain ⟨⟨d0, d1, d2, d3, d4⟩, g0, g1, g2, g3, g4⟩ := HG.out _ (by assumption))
               go_simp
               first
                 | done
                 | exact rfl
                 | ((go_at_call 23; refine (HCMP.out _ (by assumption)).mono ?_; rintro e w9 ⟨h1, h2⟩; exact ⟨h1, Below.trans (by assumption) (h2.mono (Below.size (by assumption)))⟩))
             (try simp only [Act.put, List.setIfInBounds_toArray, List.set_cons_zero, List.set_cons_succ])
             go_big_quiet_on))
        refine wpQuiet_nil ?_
        intro w5 hb5
        have hb5a : Below wr.heap.size wr w5 := hb5
        have HRN := Lib.hid (HRR.out.below hb5a)
        clear hb5 hb5a
        go_wp2
        go_roundw
        case measure => have := HMM.out; simp [RowKit.intOf]; omega
        case rel => exact ⟨h + 1, j, by go_num, rfl, by have := HMM.out; omega, hjb, by have := HMM.out; omega, HRN.out, Lib.hid ⟨by have := HMM.out; omega, by have := HMM.out; omega, hjb, .inr (by rw [Nat.add_sub_cancel, HD.out]; omega), HO.out.2.2.2.2⟩⟩
    · obtain rfl : i = j := by omega
      have HUP : Hid (DownAt (LV.js is) a b m i) := Lib.hid (by rw [HMB.out]; exact HO.out.done H2.out)
      clear HO H2 hR
      go_wp2
      go_loopw [17] (fun vk wr => ∃ (k : Nat) (ir : List LV), vk = .int .i64 k ∧ i ≤ k ∧ k ≤ m ∧ RowIs w0 g ir wr ∧ Hid (L = ir.length) ∧ Hid (DownAt (LV.js ir) a b k i) ∧ Hid (Moved (LV.js is) (LV.js ir) a b)) (fun vk _ => (RowKit.intOf vk).toNat)
      case atStart => exact ⟨m, is, rfl, hjb, Nat.le_refl _, hRr, HLL, HUP, Lib.hid (Moved.refl _ _ _)⟩
      case round =>
        clear hRr HUP
        obtain ⟨p, ir, rfl, hap, hpi, hRr, HLr, HU, HM⟩ := hrel
        by_cases hlt : i < p
        · have hltI : (i : Int) < (p : Int) := by omega
          obtain ⟨r, hr⟩ : ∃ r, p = r + 1 := ⟨p - 1, by omega⟩
          have hLr := HLr.out
          have hBL := HBL.out
          have hrw : IntKind.i64.wrap ((p : Int) - 1) = (r : Int) := by rw [IntKind.wrap_i64]; omega
          have hpl : p < ir.length := by omega
          have hrl : r < ir.length := by omega
          have hpI : (p : Int) < (L : Int) := by omega
          have hrI : (r : Int) < (L : Int) := by omega
          have hp0 : (0 : Int) ≤ (p : Int) := by omega
          have hr0 : (0 : Int) ≤ (r : Int) := by omega
          have HSW := Lib.hid (hRr.swapped hpl hrl).drew
          have HX : Hid (p = r + 1 ∧ p < ir.length ∧ r < ir.length) := Lib.hid ⟨hr, hpl, hrl⟩
          obtain ⟨x, hx⟩ : ∃ x, nth ir p = x := ⟨_, rfl⟩
          obtain ⟨y, hy⟩ : ∃ y, nth ir r = y := ⟨_, rfl⟩
          rw [hx, hy] at HSW
          obtain ⟨k1, n1, s1, An1, ns1, cn1, Ai1, is1, ci1⟩ := x
          obtain ⟨k2, n2, s2, An2, ns2, cn2, Ai2, is2, ci2⟩ := y
          obtain ⟨⟨c0, c1, c2, c3, c4⟩, f0, f1, f2, f3, f4⟩ := hRr.five hpl (by rw [hx]; rfl)
          obtain ⟨⟨d0, d1, d2, d3, d4⟩, g0, g1, g2, g3, g4⟩ := hRr.five hrl (by rw [hy]; rfl)
          obtain ⟨e0, e1, e2, e3, e4⟩ := past5 (p := p) (r := r) (by omega) ⟨d0, d1, d2, d3, d4⟩ (.int .i64 k2) (.int .i64 n2) (.string s2) (.slice An2 ns2.length cn2) (.slice Ai2 is2.length ci2)
          clear hLr hBL hr hpl hrl hx hy hRr
          go_wp2_with fail
          go_region
          have HW : Hid (RowIs w0 g (swapV ir p r) ((((((((((wr.setCell ⟨g, p * 5, none⟩ (.int .i64 k2)).setCell ⟨g, p * 5 + 1, none⟩ (.int .i64 n2)).setCell ⟨g, p * 5 + 2, none⟩ (.string s2)).setCell ⟨g, p * 5 + 3, none⟩ (.slice An2 ns2.length cn2)).setCell ⟨g, p * 5 + 4, none⟩ (.slice Ai2 is2.length ci2)).setCell ⟨g, r * 5, none⟩ (.int .i64 k1)).setCell ⟨g, r * 5 + 1, none⟩ (.int .i64 n1)).setCell ⟨g, r * 5 + 2, none⟩ (.string s1)).setCell ⟨g, r * 5 + 3, none⟩ (.slice An1 ns1.length cn1)).setCell ⟨g, r * 5 + 4, none⟩ (.slice Ai1 is1.length ci1)).drew) := HSW
          clear HSW
          clear c0 c1 c2 c3 c4 f0 f1 f2 f3 f4 d0 d1 d2 d3 d4 g0 g1 g2 g3 g4 e0 e1 e2 e3 e4
          generalize ((((((((((wr.setCell ⟨g, p * 5, none⟩ (.int .i64 k2)).setCell ⟨g, p * 5 + 1, none⟩ (.int .i64 n2)).setCell ⟨g, p * 5 + 2, none⟩ (.string s2)).setCell ⟨g, p * 5 + 3, none⟩ (.slice An2 ns2.length cn2)).setCell ⟨g, p * 5 + 4, none⟩ (.slice Ai2 is2.length ci2)).setCell ⟨g, r * 5, none⟩ (.int .i64 k1)).setCell ⟨g, r * 5 + 1, none⟩ (.int .i64 n1)).setCell ⟨g, r * 5 + 2, none⟩ (.string s1)).setCell ⟨g, r * 5 + 3, none⟩ (.slice An1 ns1.length cn1)).setCell ⟨g, r * 5 + 4, none⟩ (.slice Ai1 is1.length ci1)).drew = wz at HW ⊢
          go_wp2
          go_roundw
          case measure => have := HX.out; simp [RowKit.intOf]; omega
          case rel =>
            obtain ⟨e1, e2, e3⟩ := HX.out
            have hLr := HLr.out
            have hBL := HBL.out
            refine ⟨r, swapV ir p r, by first | rfl | go_num, by omega, by omega, HW.out, Lib.hid (by rw [swapV_len]; exact hLr), Lib.hid ?_, Lib.hid ?_⟩
            · have := HU.out.step (by omega) hlt (by rw [js_length]; omega) hmi; rw [show p - 1 = r by omega] at this; rw [swapV_js e2 e3]; exact this
            · rw [swapV_js e2 e3]; exact HM.out.trans (Moved.swap (by omega) (by omega) (by omega) (by omega) (by rw [js_length]; omega))
        · have hltI : ¬ (i : Int) < (p : Int) := by omega
          go_wp2
          go_end0
          exact ⟨rfl, ir, hRr, HLr.out.symm, HU.out.done (by omega), HM.out⟩
end Go.Proofs.YtmobolefijneoaaDoor
