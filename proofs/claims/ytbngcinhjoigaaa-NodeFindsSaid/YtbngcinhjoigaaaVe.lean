/-
  NodeFinds: its walk.
-/
import Derived.Test.YtbngcinhjoigaaaVd
set_option linter.unusedVariables false
namespace Go.Proofs.Ytbngcinhjoigaaa
open Go.RowKit

theorem fewN_iff {ks vs : List (List Int)} {is : List Int} (h : fewN ks vs is = true) : ks.length ≤ 120 ∧ vs.length ≤ 120 ∧ is.length ≤ 120 ∧ LenLe ks 300 ∧ LenLe vs 300 := of_decide_eq_true h

set_option maxRecDepth 8000 in
set_option maxHeartbeats 8000000 in
theorem finds_walk (lf : Bool) (Ak : Option Addr) (ks : List (List Int)) (ck : Nat) (Av : Option Addr) (vs : List (List Int)) (cv : Nat) (Ai : Option Addr) (is : List Int) (ci : Nat) (A2 : Option Addr) (key : List Int) (c2 : Nat) (w : World) (h : NodeAt w Ak ks ck Av vs cv Ai is ci) (hC : Cells w w.heap.size A2 (U8 key)) (hO : Oct key) (hl : key.length ≤ c2 ∧ c2 ≤ 9223372036854775807) :
    Calls Try.prog 3 #[nodeV lf Ak ks ck Av vs cv Ai is ci, .slice A2 key.length c2] w fun e w' => e = .returned (.bool true) ∧ Below w.heap.size w w' := by
  obtain ⟨W, hW⟩ : ∃ W, W = w.alloc (.cells #[.bool lf, .slice Ak ks.length ck, .slice Av vs.length cv, .slice Ai is.length ci] 25) := ⟨_, rfl⟩
  have hWz : W.heap.size = w.heap.size + 1 := by rw [hW]; simp
  have hF : Four W w.heap.size (.bool lf) (.slice Ak ks.length ck) (.slice Av vs.length cv) (.slice Ai is.length ci) := by rw [hW]; exact Four.new w _ _ _ _ _
  have hB0 : Below w.heap.size w W := by rw [hW]; exact (Below.refl _ _).alloc (Nat.le_refl _) _
  have hN := h.below hB0
  have hCW := (hC.below hB0).whole
  have HW := Lib.hid hW
  clear hW h hC
  have HWZ := Lib.hid hWz
  clear hWz
  go_enter Try.func3, Try.ntmps3
  go_wp2_with fail
  rw [← HW.out]
  refine (awake_any W).mono ?_
  rintro e w1 ⟨rfl, hb1⟩
  obtain ⟨c0, c1, c3, c4⟩ := hF.below hb1 (by have := HWZ.out; omega)
  go_wp2_with fail
  refine (plain_any _ _ _ _ lf Ak Av Ai ks.length ck vs.length cv is.length ci w1 rfl rfl rfl rfl).mono ?_
  rintro e w2 ⟨rfl, hb2⟩
  have hB2 := hb1.trans (hb2.mono hb1.size)
  have HFW := Lib.hid (few_any lf Ak ks ck Av vs cv Ai is ci w2 (hN.below hB2))
  cases hfew : fewN ks vs is with
  | false =>
    rw [hfew] at HFW
    clear hfew
    go_wp2_with fail
    refine HFW.out.mono ?_
    rintro e w3 ⟨rfl, hb3⟩
    have hB3 := hB2.trans (hb3.mono hB2.size)
    go_wp2_with fail
    refine (awake_any w3).mono ?_
    rintro e w4 ⟨rfl, hb4⟩
    go_wp2
    go_ret
    have hB4 := hB3.trans (hb4.mono hB3.size)
    exact ⟨rfl, hB0.trans (hB4.mono hB0.size)⟩
  | true =>
    rw [hfew] at HFW
    obtain ⟨s1, s2, s3, s4, s5⟩ := fewN_iff hfew
    clear hfew
    by_cases hk : 1000 < key.length
    · have hkI : (1000 : Int) < (key.length : Int) := by omega
      go_wp2_with fail
      refine HFW.out.mono ?_
      rintro e w3 ⟨rfl, hb3⟩
      have hB3 := hB2.trans (hb3.mono hB2.size)
      go_wp2_with fail
      refine (awake_any w3).mono ?_
      rintro e w4 ⟨rfl, hb4⟩
      go_wp2
      go_ret
      have hB4 := hB3.trans (hb4.mono hB3.size)
      exact ⟨rfl, hB0.trans (hB4.mono hB0.size)⟩
    · have hkI : ¬ (1000 : Int) < (key.length : Int) := by omega
      go_wp2_with fail
      refine HFW.out.mono ?_
      rintro e w3 ⟨rfl, hb3⟩
      have hB3 := hB2.trans (hb3.mono hB2.size)
      clear HFW hb3 hb2 hB2 hb1 c0 c1 c3 c4
      obtain ⟨c0, c1, c3, c4⟩ := hF.below hB3 (by have := HWZ.out; omega)
      have HF := Lib.hid (find_any lf Ak ks ck Av vs.length cv Ai is.length ci A2 key c2 w3 (hN.below hB3).keys (hCW.below hB3).whole hO (by omega))
      go_wp2_with fail
      refine HF.out.mono ?_
      clear HF
      rintro e w4 ⟨rfl, hb4⟩
      have hB4 := hB3.trans (hb4.mono hB3.size)
      clear c0 c1 c3 c4 hb4 hB3
      obtain ⟨c0, c1, c3, c4⟩ := hF.below hB4 (by have := HWZ.out; omega)
      go_wp2_with fail
      refine (plain_any _ _ _ _ lf Ak Av Ai ks.length ck vs.length cv is.length ci w4 rfl rfl rfl rfl).mono ?_
      rintro e w5 ⟨rfl, hb5⟩
      have hB5 := hB4.trans (hb5.mono hB4.size)
      have HF := Lib.hid (rfind_any lf Ak ks ck Av vs.length cv Ai is.length ci A2 key c2 w5 (hN.below hB5).keys (hCW.below hB5).whole hO (by omega) (s4.mono (by omega)) (by omega))
      clear c0 c1 c3 c4 hb5 hB4
      go_wp2_with fail
      refine HF.out.mono ?_
      rintro e w6 ⟨rfl, hb6⟩
      have hB6 := hB5.trans (hb6.mono hB5.size)
      go_wp2
      go_ret
      exact ⟨by simp, hB0.trans (hB6.mono hB0.size)⟩
end Go.Proofs.Ytbngcinhjoigaaa
