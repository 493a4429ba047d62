/-
  NodePages: its walk.
-/
import Derived.Test.YtbngcinhjoigaaaVo
set_option linter.unusedVariables false
namespace Go.Proofs.Ytbngcinhjoigaaa
open Go.RowKit

theorem fewN_iff {ks vs : List (List Int)} {is : List Int} (h : fewN ks vs is = true) : ks.length ≤ 120 ∧ vs.length ≤ 120 ∧ is.length ≤ 120 ∧ LenLe ks 300 ∧ LenLe vs 300 := of_decide_eq_true h

set_option maxRecDepth 8000 in
set_option maxHeartbeats 8000000 in
theorem pages_walk (lf : Bool) (Ak : Option Addr) (ks : List (List Int)) (ck : Nat) (Av : Option Addr) (vs : List (List Int)) (cv : Nat) (Ai : Option Addr) (is : List Int) (ci : Nat) (w : World) (h : NodeAt w Ak ks ck Av vs cv Ai is ci) :
    Calls Try.prog 4 #[nodeV lf Ak ks ck Av vs cv Ai is ci] w fun e w' => e = .returned (.bool true) ∧ Below w.heap.size w w' := by
  obtain ⟨W, hW⟩ : ∃ W, W = w.alloc (.cells #[.bool lf, .slice Ak ks.length ck, .slice Av vs.length cv, .slice Ai is.length ci] 25) := ⟨_, rfl⟩
  have hWz : W.heap.size = w.heap.size + 1 := by rw [hW]; simp
  have hF : Four W w.heap.size (.bool lf) (.slice Ak ks.length ck) (.slice Av vs.length cv) (.slice Ai is.length ci) := by rw [hW]; exact Four.new w _ _ _ _ _
  have hB0 : Below w.heap.size w W := by rw [hW]; exact (Below.refl _ _).alloc (Nat.le_refl _) _
  have hN := h.below hB0
  have HW := Lib.hid hW
  clear hW h
  have HWZ := Lib.hid hWz
  clear hWz
  go_enter Try.func4, Try.ntmps4
  go_wp2_with fail
  rw [← HW.out]
  refine (awake_any W).mono ?_
  rintro e w1 ⟨rfl, hb1⟩
  obtain ⟨c0, c1, c3, c4⟩ := hF.below hb1 (by have := HWZ.out; omega)
  go_wp2_with fail
  refine (plain_any _ _ _ _ lf Ak Av Ai ks.length ck vs.length cv is.length ci w1 rfl rfl rfl rfl).mono ?_
  rintro e w2 ⟨rfl, hb2⟩
  have hB2 := hb1.trans (hb2.mono hb1.size)
  have HFW := Lib.hid (few_any lf Ak ks ck Av vs cv Ai is ci w2 (hN.below hB2))
  cases hfew : fewN ks vs is with
  | false =>
    rw [hfew] at HFW
    clear hfew
    go_wp2_with fail
    refine HFW.out.mono ?_
    rintro e w3 ⟨rfl, hb3⟩
    have hB3 := hB2.trans (hb3.mono hB2.size)
    go_wp2_with fail
    refine (awake_any w3).mono ?_
    rintro e w4 ⟨rfl, hb4⟩
    go_wp2
    go_ret
    have hB4 := hB3.trans (hb4.mono hB3.size)
    exact ⟨rfl, hB0.trans (hB4.mono hB0.size)⟩
  | true =>
    rw [hfew] at HFW
    obtain ⟨s1, s2, s3, s4, s5⟩ := fewN_iff hfew
    clear hfew
    go_wp2_with fail
    refine HFW.out.mono ?_
    rintro e w3 ⟨rfl, hb3⟩
    have hB3 := hB2.trans (hb3.mono hB2.size)
    clear HFW hb3 hb2 hB2 hb1 c0 c1 c3 c4
    obtain ⟨c0, c1, c3, c4⟩ := hF.below hB3 (by have := HWZ.out; omega)
    have HPL : Hid ((if frmB lf ks vs is = true then pageL lf ks vs is else []).length ≤ 100000) := Lib.hid (by
      by_cases hf : frmB lf ks vs is = true
      · rw [if_pos hf]
        have : sizeTo lf ks vs ks.length ≤ 1024 := by unfold frmB at hf; rw [Bool.and_eq_true] at hf; exact of_decide_eq_true hf.2
        rw [pageL_len this]
        decide
      · rw [if_neg hf]; exact Nat.zero_le _)
    obtain ⟨PG, hPG⟩ : ∃ PG, (if frmB lf ks vs is = true then pageL lf ks vs is else []) = PG := ⟨_, rfl⟩
    obtain ⟨E, hE⟩ : ∃ E : Int, (if frmB lf ks vs is = true then (0 : Int) else 2) = E := ⟨_, rfl⟩
    rw [hPG] at HPL
    have HP : Hid (Calls Try.prog 12 #[nodeV lf Ak ks ck Av vs cv Ai is ci] w3 fun e w' => (∃ v, e = .returned (.tuple #[v, .int .i64 E]) ∧ Own w' w3.heap.size v PG) ∧ Below w3.heap.size w3 w') := Lib.hid (by
      have := write_any lf Ak ks ck Av vs cv Ai is ci w3 (hN.below hB3) (s4.mono (by omega)) (s5.mono (by omega)) (by omega) (by omega) (by omega)
      unfold WriteRes at this
      rw [hPG, hE] at this
      exact this)
    have HRP : Hid (∀ w5, Below W.heap.size W w5 → Calls Try.prog 13 #[nodeV lf Ak ks ck Av vs cv Ai is ci] w5 fun e w' => (∃ v, e = .returned (.tuple #[v, .int .i64 E]) ∧ Own w' w5.heap.size v PG) ∧ Below w5.heap.size w5 w') := Lib.hid fun w5 hB5 => by
      have := rwrite_any lf Ak ks ck Av vs cv Ai is ci w5 (hN.below hB5) (s4.mono (by omega)) (s5.mono (by omega)) (by omega) (by omega) (by omega)
      unfold WriteRes at this
      rw [hPG, hE] at this
      exact this
    clear hPG hE
    go_wp2_with fail
    refine HP.out.mono ?_
    clear HP
    rintro e w4 ⟨⟨v4, rfl, hown4⟩, hb4⟩
    have hB4 := hB3.trans (hb4.mono hB3.size)
    clear c0 c1 c3 c4 hB3
    obtain ⟨c0, c1, c3, c4⟩ := hF.below hB4 (by have := HWZ.out; omega)
    go_wp2_with fail
    refine (plain_any _ _ _ _ lf Ak Av Ai ks.length ck vs.length cv is.length ci w4 rfl rfl rfl rfl).mono ?_
    rintro e w5 ⟨rfl, hb5⟩
    have hB5 := hB4.trans (hb5.mono hB4.size)
    have HP := Lib.hid (HRP.out w5 hB5)
    clear c0 c1 c3 c4 hB4
    go_wp2_with fail
    refine HP.out.mono ?_
    clear HP
    rintro e w6 ⟨⟨v6, rfl, hown6⟩, hb6⟩
    have hB6 := hB5.trans (hb6.mono hB5.size)
    have hown4' := (hown4.below hb5).below hb6
    obtain ⟨A4, x4, e4, _, _, hc4⟩ := hown4'.shape
    obtain ⟨A6, x6, e6, _, _, hc6⟩ := hown6.shape
    subst e4 e6
    have HSM := Lib.hid (same_b A4 A6 PG PG x4 x6 w6 hc4 hc6 (by have := HPL.out; omega))
    rw [show sameB PG PG = true from decide_eq_true rfl] at HSM
    go_wp2_with (go_at_call 14; refine HSM.out.mono ?_; rintro e w7 ⟨rfl, hb7⟩)
    go_ret
    have hB7 := hB6.trans (hb7.mono hB6.size)
    exact ⟨rfl, hB0.trans (hB7.mono hB0.size)⟩
end Go.Proofs.Ytbngcinhjoigaaa
