/-
  slices.rotateCmpFunc.
-/
import Derived.Test.YtmobolefijneoaaDoorOt
set_option linter.unusedVariables false
namespace Go.Proofs.YtmobolefijneoaaDoor
open Go.RowKit Go.Joins Go.Deep

set_option maxHeartbeats 4000000 in
set_option maxRecDepth 100000 in
theorem rotate_any (w0 w : World) (g a m b L c : Nat) (is : List LV) (cmp : Value) (A M B : Int) (hA : A = a) (hMI : M = m) (hBI : B = b) (hL : L = is.length) (hc : L ≤ c) (hm : L ≤ 1000) (ham : a < m) (hmb : m < b) (hb : b ≤ L) (hR : RowIs w0 g is w) :
    Calls Tryd.prog 56 #[.slice (some ⟨g, 0, none⟩) L c, .int .i64 A, .int .i64 M, .int .i64 B, cmp] w fun e w' =>
      e = .returned (.tuple #[]) ∧ ∃ it, RowIs w0 g it w' ∧ it.length = L ∧ RotIs (LV.js is) (LV.js it) a m b ∧ Moved (LV.js is) (LV.js it) a b := by
  subst hA hMI hBI
  have hb1 : b ≤ 1000 := by omega
  go_enter Tryd.func56, Tryd.ntmps56
  go_wp2
  go_loopw [10, 11] (fun vi vj wr => ∃ (i j : Nat) (ir : List LV), vi = .int .i64 i ∧ vj = .int .i64 j ∧ 0 < i ∧ 0 < j ∧ a + i ≤ m ∧ m + j ≤ b ∧ RowIs w0 g ir wr ∧ Hid (L = ir.length) ∧ Hid (∀ T, RotIs (LV.js ir) T (m - i) m (m + j) → RotIs (LV.js is) T a m b) ∧ Hid (Moved (LV.js is) (LV.js ir) a b)) (fun vi vj _ => (RowKit.intOf vi).toNat + (RowKit.intOf vj).toNat)
  case atStart => exact ⟨m - a, b - m, is, by go_num, by go_num, by omega, by omega, by omega, by omega, hR, Lib.hid hL, Lib.hid (fun T hT => by rw [show m - (m - a) = a by omega, show m + (b - m) = b by omega] at hT; exact hT), Lib.hid (Moved.refl _ _ _)⟩
  case round =>
    clear hR hL
    obtain ⟨i, j, ir, rfl, rfl, hi0, hj0, hai, hbj, hRr, HLr, HS, HM⟩ := hrel
    by_cases hij : i = j
    · subst hij
      obtain ⟨p, hp⟩ : ∃ p, p = m - i := ⟨_, rfl⟩
      go_wp2_with fail
      refine (swap_range w0 _ g p m i L c ir cmp ((m : Int) - (i : Int)) (m : Int) (i : Int) (by omega) rfl rfl HLr.out hc hm (by omega) (by omega) hRr).mono ?_
      rintro e w1 ⟨rfl, it, h1, h2, h3, h4⟩
      have H3 := Lib.hid h3
      have H4 := Lib.hid h4
      clear h3 h4
      go_wp2
      go_end0
      refine ⟨rfl, it, h1, h2, HS.out _ ?_, HM.out.trans (H4.out.mono (by omega) (by omega))⟩
      rw [← hp]
      exact RotIs.ofSwap H3.out (by omega)
    · by_cases hgt : j < i
      · obtain ⟨p, hp⟩ : ∃ p, p = m - i := ⟨_, rfl⟩
        have hgtI : (j : Int) < (i : Int) := by omega
        have hneI : ¬ (i : Int) = (j : Int) := by omega
        go_wp2_with fail
        refine (swap_range w0 _ g p m j L c ir cmp ((m : Int) - (i : Int)) (m : Int) (j : Int) (by omega) rfl rfl HLr.out hc hm (by omega) (by omega) hRr).mono ?_
        rintro e w1 ⟨rfl, it, h1, h2, h3, h4⟩
        have H3 := Lib.hid h3
        have H4 := Lib.hid h4
        clear h3 h4
        go_wp2
        go_roundw
        case measure => simp [RowKit.intOf]; omega
        case rel =>
          refine ⟨i - j, j, it, by go_num, rfl, by omega, hj0, by omega, hbj, h1, Lib.hid h2.symm, Lib.hid fun T hT => HS.out T (RotIs.ahead (by omega) hgt (by rw [← hp]; exact H3.out) hT), Lib.hid (HM.out.trans (H4.out.mono (by omega) (by omega)))⟩
      · obtain ⟨p, hp⟩ : ∃ p, p = m - i := ⟨_, rfl⟩
        obtain ⟨r, hr⟩ : ∃ r, r = m + j - i := ⟨_, rfl⟩
        have hgtI : ¬ (j : Int) < (i : Int) := by omega
        have hneI : ¬ (i : Int) = (j : Int) := by omega
        go_wp2_with fail
        refine (swap_range w0 _ g p r i L c ir cmp ((m : Int) - (i : Int)) ((m : Int) + (j : Int) - (i : Int)) (i : Int) (by omega) (by omega) rfl HLr.out hc hm (by omega) (by omega) hRr).mono ?_
        rintro e w1 ⟨rfl, it, h1, h2, h3, h4⟩
        have H3 := Lib.hid h3
        have H4 := Lib.hid h4
        clear h3 h4
        go_wp2
        go_roundw
        case measure => simp [RowKit.intOf]; omega
        case rel =>
          refine ⟨i, j - i, it, rfl, by go_num, hi0, by omega, hai, by omega, h1, Lib.hid h2.symm, Lib.hid fun T hT => HS.out T (RotIs.behind (by omega) (by omega) (by rw [← hp, ← hr]; exact H3.out) hT), Lib.hid (HM.out.trans (H4.out.mono (by omega) (by omega)))⟩
end Go.Proofs.YtmobolefijneoaaDoor
