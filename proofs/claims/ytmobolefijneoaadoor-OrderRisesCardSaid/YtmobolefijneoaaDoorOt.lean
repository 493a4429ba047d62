/-
  slices.swapRangeCmpFunc.
-/
import Derived.Test.YtmobolefijneoaaDoorOn
import Derived.LoopTactic
import Derived.StillTailTactics
import Derived.Deep.Cut
import Derived.Deep.DeepCutAuto
import Derived.BigRegion
set_option linter.unusedVariables false
namespace Go.Proofs.YtmobolefijneoaaDoor
open Go.RowKit Go.Joins Go.Deep

set_option maxHeartbeats 2000000 in
set_option maxRecDepth 100000 in
theorem swap_range (w0 w : World) (g a b n L c : Nat) (is : List LV) (cmp : Value) (A B N : Int) (hA : A = a) (hBI : B = b) (hN : N = n) (hL : L = is.length) (hc : L ≤ c) (hm : L ≤ 1000) (hab : a + n ≤ b) (hb : b + n ≤ L) (hR : RowIs w0 g is w) :
    Calls Tryd.prog 58 #[.slice (some ⟨g, 0, none⟩) L c, .int .i64 A, .int .i64 B, .int .i64 N, cmp] w fun e w' =>
      e = .returned (.tuple #[]) ∧ ∃ it, RowIs w0 g it w' ∧ it.length = L ∧ SwapIs (LV.js is) (LV.js it) a b n ∧ Moved (LV.js is) (LV.js it) a (b + n) := by
  subst hA hBI hN
  have HB : Hid (a + n ≤ b ∧ b + n ≤ L) := Lib.hid ⟨hab, hb⟩
  have hn1 : n ≤ 1000 := by omega
  go_enter Tryd.func58, Tryd.ntmps58
  go_wp2
  go_loopw [10] (fun i wr => ∃ (q : Nat) (ir : List LV), i = .int .i64 q ∧ q ≤ n ∧ RowIs w0 g ir wr ∧ Hid (L = ir.length) ∧ Hid (SwapIs (LV.js is) (LV.js ir) a b q) ∧ Hid (Moved (LV.js is) (LV.js ir) a (b + n))) (fun i _ => n - (RowKit.intOf i).toNat)
  case atStart => exact ⟨0, is, rfl, Nat.zero_le _, hR, Lib.hid hL, Lib.hid (SwapIs.zero _ _ _), Lib.hid (Moved.refl _ _ _)⟩
  case round =>
    clear hR hL
    obtain ⟨q, ir, rfl, hq, hRr, HLr, HS, HM⟩ := hrel
    have hLr := HLr.out
    by_cases hlt : q < n
    · have hltI : (q : Int) < (n : Int) := by omega
      obtain ⟨p, hp⟩ : ∃ p, p = a + q := ⟨_, rfl⟩
      obtain ⟨r, hr⟩ : ∃ r, r = b + q := ⟨_, rfl⟩
      have hpw : IntKind.i64.wrap ((a : Int) + (q : Int)) = (p : Int) := by rw [IntKind.wrap_i64]; omega
      have hrw : IntKind.i64.wrap ((b : Int) + (q : Int)) = (r : Int) := by rw [IntKind.wrap_i64]; omega
      have hpl : p < ir.length := by omega
      have hrl : r < ir.length := by omega
      have hpI : (p : Int) < (L : Int) := by omega
      have hrI : (r : Int) < (L : Int) := by omega
      have hp0 : (0 : Int) ≤ (p : Int) := by omega
      have hr0 : (0 : Int) ≤ (r : Int) := by omega
      have HSW := Lib.hid (hRr.swapped hpl hrl).drew
      obtain ⟨x, hx⟩ : ∃ x, nth ir p = x := ⟨_, rfl⟩
      obtain ⟨y, hy⟩ : ∃ y, nth ir r = y := ⟨_, rfl⟩
      rw [hx, hy] at HSW
      obtain ⟨k1, n1, s1, An1, ns1, cn1, Ai1, is1, ci1⟩ := x
      obtain ⟨k2, n2, s2, An2, ns2, cn2, Ai2, is2, ci2⟩ := y
      obtain ⟨⟨c0, c1, c2, c3, c4⟩, f0, f1, f2, f3, f4⟩ := hRr.five hpl (by rw [hx]; rfl)
      obtain ⟨⟨d0, d1, d2, d3, d4⟩, g0, g1, g2, g3, g4⟩ := hRr.five hrl (by rw [hy]; rfl)
      obtain ⟨e0, e1, e2, e3, e4⟩ := past5 (p := p) (r := r) (by omega) ⟨d0, d1, d2, d3, d4⟩ (.int .i64 k2) (.int .i64 n2) (.string s2) (.slice An2 ns2.length cn2) (.slice Ai2 is2.length ci2)
      have HX : Hid (p = a + q ∧ r = b + q ∧ p < ir.length ∧ r < ir.length) := Lib.hid ⟨hp, hr, hpl, hrl⟩
      clear hLr hp hr hpl hrl hx hy hRr hab hb
      go_wp2_with fail
      go_region
      have HW : Hid (RowIs w0 g (swapV ir p r) ((((((((((wr.setCell ⟨g, p * 5, none⟩ (.int .i64 k2)).setCell ⟨g, p * 5 + 1, none⟩ (.int .i64 n2)).setCell ⟨g, p * 5 + 2, none⟩ (.string s2)).setCell ⟨g, p * 5 + 3, none⟩ (.slice An2 ns2.length cn2)).setCell ⟨g, p * 5 + 4, none⟩ (.slice Ai2 is2.length ci2)).setCell ⟨g, r * 5, none⟩ (.int .i64 k1)).setCell ⟨g, r * 5 + 1, none⟩ (.int .i64 n1)).setCell ⟨g, r * 5 + 2, none⟩ (.string s1)).setCell ⟨g, r * 5 + 3, none⟩ (.slice An1 ns1.length cn1)).setCell ⟨g, r * 5 + 4, none⟩ (.slice Ai1 is1.length ci1)).drew) := HSW
      clear HSW
      clear c0 c1 c2 c3 c4 f0 f1 f2 f3 f4 d0 d1 d2 d3 d4 g0 g1 g2 g3 g4 e0 e1 e2 e3 e4
      generalize ((((((((((wr.setCell ⟨g, p * 5, none⟩ (.int .i64 k2)).setCell ⟨g, p * 5 + 1, none⟩ (.int .i64 n2)).setCell ⟨g, p * 5 + 2, none⟩ (.string s2)).setCell ⟨g, p * 5 + 3, none⟩ (.slice An2 ns2.length cn2)).setCell ⟨g, p * 5 + 4, none⟩ (.slice Ai2 is2.length ci2)).setCell ⟨g, r * 5, none⟩ (.int .i64 k1)).setCell ⟨g, r * 5 + 1, none⟩ (.int .i64 n1)).setCell ⟨g, r * 5 + 2, none⟩ (.string s1)).setCell ⟨g, r * 5 + 3, none⟩ (.slice An1 ns1.length cn1)).setCell ⟨g, r * 5 + 4, none⟩ (.slice Ai1 is1.length ci1)).drew = wz at HW ⊢
      go_wp2
      go_roundw
      case measure => have h1 := HB.out; have h2 := HLr.out; simp [RowKit.intOf]; omega
      case rel =>
        obtain ⟨e1, e2, e3, e4⟩ := HX.out
        obtain ⟨b1, b2⟩ := HB.out
        have hLr := HLr.out
        refine ⟨q + 1, swapV ir p r, by first | rfl | go_num, by omega, HW.out, Lib.hid (by rw [swapV_len]; exact HLr.out), Lib.hid ?_, Lib.hid ?_⟩
        · rw [swapV_js e3 e4, e1, e2]; exact HS.out.step (by omega) (by rw [js_length]; omega)
        · rw [swapV_js e3 e4]; exact HM.out.trans (Moved.swap (by omega) (by omega) (by omega) (by omega) (by rw [js_length]; omega))
    · have hltI : ¬ (q : Int) < (n : Int) := by omega
      have hqn : q = n := by omega
      subst hqn
      clear hLr
      go_wp2
      go_end0
      exact ⟨rfl, ir, hRr, HLr.out.symm, HS.out, HM.out⟩
end Go.Proofs.YtmobolefijneoaaDoor
