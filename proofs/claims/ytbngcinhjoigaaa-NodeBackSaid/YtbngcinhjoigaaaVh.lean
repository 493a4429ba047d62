/-
  The contracts of node.shaped and munimentref09.Shaped.
-/
import Derived.Test.YtbngcinhjoigaaaVg
set_option linter.unusedVariables false
namespace Go.Proofs.Ytbngcinhjoigaaa
open Go.RowKit

theorem shB_no {lf : Bool} {ks vs : List (List Int)} {is : List Int} (h : ¬ KeysOK ks) : shB lf ks vs is = false := decide_eq_false fun x => h x.1
theorem shB_leaf {ks vs : List (List Int)} {is : List Int} (h : KeysOK ks) : shB true ks vs is = (decide (vs.length = ks.length) && decide (is.length = 0) && decide (LenLe vs 260)) := by
  rw [Bool.eq_iff_iff]
  unfold shB
  rw [decide_eq_true_eq]
  unfold ShapedP
  simp only [if_true, Bool.and_eq_true, decide_eq_true_eq]
  constructor
  · rintro ⟨_, h2, h3, h4, h5⟩; exact ⟨⟨h4, h5⟩, h2⟩
  · rintro ⟨⟨h4, h5⟩, h2⟩; exact ⟨h, h2, KidsOK.nil' h5, h4, h5⟩
theorem shB_inner {ks vs : List (List Int)} {is : List Int} (h : KeysOK ks) : shB false ks vs is = (decide (vs.length = 0) && decide (is.length = ks.length + 1) && decide (KidsOK is)) := by
  rw [Bool.eq_iff_iff]
  unfold shB
  rw [decide_eq_true_eq]
  unfold ShapedP
  simp only [Bool.false_eq_true, if_false, Bool.and_eq_true, decide_eq_true_eq]
  constructor
  · rintro ⟨_, h2, h3, h4, h5⟩; exact ⟨⟨h4, h5⟩, h3⟩
  · rintro ⟨⟨h4, h5⟩, h3⟩; exact ⟨h, LenLe.nil' h4, h3, h4, h5⟩
theorem shB_both {lf : Bool} {ks vs : List (List Int)} {is : List Int} (h : KeysOK ks) (h2 : LenLe vs 260) (h3 : KidsOK is) : shB lf ks vs is = if lf = true then (decide (is.length = 0) && decide (vs.length = ks.length)) else (decide (vs.length = 0) && decide (is.length = ks.length + 1)) := by
  cases lf
  · rw [shB_inner h, decide_eq_true h3, Bool.and_true]; rfl
  · rw [shB_leaf h, decide_eq_true h2, Bool.and_true, Bool.and_comm]; rfl

set_option maxRecDepth 8000 in
set_option maxHeartbeats 8000000 in
theorem shaped_any (lf : Bool) (Ak : Option Addr) (ks : List (List Int)) (ck : Nat) (Av : Option Addr) (vs : List (List Int)) (cv : Nat) (Ai : Option Addr) (is : List Int) (ci : Nat) (w : World) (h : NodeAt w Ak ks ck Av vs cv Ai is ci) (h3 : ks.length ≤ 100000) (h4 : vs.length ≤ 1000000) (h5 : is.length ≤ 1000000) :
    Calls Try.prog 37 #[nodeV lf Ak ks ck Av vs cv Ai is ci] w fun e w' => e = .returned (.bool (shB lf ks vs is)) ∧ Below w.heap.size w w' := by
  have HNO : Hid (¬ KeysOK ks → shB lf ks vs is = false) := Lib.hid shB_no
  obtain ⟨R, hR⟩ : ∃ R, R = shB lf ks vs is := ⟨_, rfl⟩
  rw [← hR] at HNO ⊢
  have HR := Lib.hid hR
  clear hR
  obtain ⟨W, hW⟩ : ∃ W, W = w.alloc (.cells #[.bool lf, .slice Ak ks.length ck, .slice Av vs.length cv, .slice Ai is.length ci] 25) := ⟨_, rfl⟩
  have hF : Four W w.heap.size (.bool lf) (.slice Ak ks.length ck) (.slice Av vs.length cv) (.slice Ai is.length ci) := by rw [hW]; exact Four.new w _ _ _ _ _
  have hB0 : Below w.heap.size w W := by rw [hW]; exact (Below.refl _ _).alloc (Nat.le_refl _) _
  have hN := h.below hB0
  obtain ⟨hK, hV, hI, _, _, _, _⟩ := hN
  have HC1 := Lib.hid (containsR_any Av vs cv W hV (by omega))
  have HC2 := Lib.hid (containsI_any Ai is ci W hI (by omega))
  have HW := Lib.hid hW
  clear hW h hV hI
  obtain ⟨c0, c1, c3, c4⟩ := hF
  go_enter Try.func37, Try.ntmps37
  go_wp2
  go_loopw [8] (fun i wr => ∃ k : Nat, i = .int .i64 k ∧ k ≤ ks.length ∧ Hid (∀ j, j < k → KeyOK ks j) ∧ wr = W)
    (fun i _ => ks.length - (intOf i).toNat)
  case atStart => exact ⟨0, rfl, Nat.zero_le _, Lib.hid (fun j hj => absurd hj (by omega)), HW.out.symm⟩
  case round =>
    obtain ⟨k, rfl, hk, HALL, rfl⟩ := hrel
    by_cases hlt : k < ks.length
    · have hkI : (k : Int) < (ks.length : Int) := by omega
      obtain ⟨b, off, A', c, rfl, hb, hc, hcl, hoc, _⟩ := hK k hlt
      have HG : Hid (ks.getD k [] = ks[k]) := Lib.hid (getD_at hlt)
      have HNK : Hid (¬ KeyOK ks k → R = false) := Lib.hid fun x => HNO.out fun y => x (y k hlt)
      generalize ks[k] = x at *
      by_cases g1 : x.length < 1
      · have HE := Lib.hid (HNK.out fun y => by have := y.1; rw [HG.out] at this; omega)
        have g1I : (x.length : Int) < 1 := by omega
        go_wp2
        go_ret
        exact ⟨ret_bool HE.out.symm, hB0⟩
      · have g1I : ¬ (x.length : Int) < 1 := by omega
        by_cases g2 : 240 < x.length
        · have HE := Lib.hid (HNK.out fun y => by have := y.2.1; rw [HG.out] at this; omega)
          have g2I : (240 : Int) < (x.length : Int) := by omega
          go_wp2
          go_ret
          exact ⟨ret_bool HE.out.symm, hB0⟩
        · have g2I : ¬ (240 : Int) < (x.length : Int) := by omega
          by_cases g3 : k = 0
          · have HOK : Hid (KeyOK ks k) := Lib.hid ⟨by rw [HG.out]; omega, by rw [HG.out]; omega, fun hp => absurd hp (by omega)⟩
            have hk0 : ¬ (0 : Int) < (k : Int) := by omega
            have HK0 := Lib.hid g3
            clear g3
            go_wp2
            go_roundw
            case rel => exact ⟨k + 1, by go_num, by omega, Lib.hid (fun j hj => by obtain rfl : j = k := (by have := HK0.out; omega); exact HOK.out), trivial⟩
            case measure => simp [intOf]; omega
          · obtain ⟨q, hq⟩ : ∃ q : Nat, k = q + 1 := ⟨k - 1, by omega⟩
            have hqk : q < ks.length := by omega
            obtain ⟨b2, off2, A2, c2, e, hb2, hc2, hcl2, hoc2, _⟩ := hK q hqk
            injection e with e
            injection e with e1 e2
            subst e1 e2
            have HG2 : Hid (ks.getD (k - 1) [] = ks[q]) := Lib.hid (by rw [show k - 1 = q by omega]; exact getD_at hqk)
            generalize ks[q] = y at *
            have hqm : (k : Int) - 1 = (q : Int) := by omega
            have hqI : (q : Int) < (ks.length : Int) := by omega
            have hk0 : (0 : Int) < (k : Int) := by omega
            have HQ := Lib.hid hq
            clear hq g3
            have HC := Lib.hid (bytes_compare A2 A' y x c2 c wr hcl2 hcl hoc2 hoc)
            rcases cmpB_cases y x with ⟨e1, e2⟩ | ⟨e1, _, e2⟩ | ⟨e1, _, e2⟩
            · have HOK : Hid (KeyOK ks k) := Lib.hid ⟨by rw [HG.out]; omega, by rw [HG.out]; omega, fun hp => by rw [HG.out, HG2.out]; exact e1⟩
              rw [e2] at HC
              clear e1 e2
              go_wp2_with (go_at_call 20; refine HC.out.mono ?_; rintro e w2 ⟨rfl, rfl⟩)
              go_roundw
              case rel => exact ⟨k + 1, by go_num, by omega, Lib.hid (fun j hj => by
                rcases Nat.lt_or_ge j k with h1 | h1
                · exact HALL.out j h1
                · obtain rfl : j = k := by omega
                  exact HOK.out), trivial⟩
              case measure => simp [intOf]; omega
            · have HE := Lib.hid (HNK.out fun y => by have := y.2.2 (by omega); rw [HG.out, HG2.out, e1] at this; cases this)
              rw [e2] at HC
              clear e1 e2
              go_wp2_with (go_at_call 20; refine HC.out.mono ?_; rintro e w2 ⟨rfl, rfl⟩)
              go_ret
              exact ⟨ret_bool HE.out.symm, hB0⟩
            · have HE := Lib.hid (HNK.out fun y => by have := y.2.2 (by omega); rw [HG.out, HG2.out, e1] at this; cases this)
              rw [e2] at HC
              clear e1 e2
              go_wp2_with (go_at_call 20; refine HC.out.mono ?_; rintro e w2 ⟨rfl, rfl⟩)
              go_ret
              exact ⟨ret_bool HE.out.symm, hB0⟩
    · have hgl : ¬ (k : Int) < (ks.length : Int) := by omega
      have HKO := Lib.hid (KeysOK.step HALL.out (by omega))
      clear HALL HNO
      cases lf with
      | true =>
        have HE := Lib.hid (HR.out.trans (shB_leaf HKO.out))
        by_cases e1 : vs.length = ks.length
        · have g1 : ((vs.length : Int) == (ks.length : Int)) = true := by simp [e1]
          have HE1 := Lib.hid e1
          clear e1
          by_cases e2 : is.length = 0
          · have g2 : ((is.length : Int) == 0) = true := by simp [e2]
            have HE2 := Lib.hid e2
            clear e2
            go_wp2_with (go_at_call 42; refine HC1.out.mono ?_; rintro e w2 ⟨rfl, rfl⟩)
            go_ret
            exact ⟨ret_bool (by rw [HE.out, decide_eq_true HE1.out, decide_eq_true HE2.out]; simp), hB0⟩
          · have g2 : ((is.length : Int) == 0) = false := by rw [beq_eq_false_iff_ne]; omega
            have HE2 := Lib.hid e2
            clear e2
            go_wp2
            go_ret
            exact ⟨ret_bool (by rw [HE.out, decide_eq_false HE2.out]; simp), hB0⟩
        · have g1 : ((vs.length : Int) == (ks.length : Int)) = false := by rw [beq_eq_false_iff_ne]; omega
          have HE1 := Lib.hid e1
          clear e1
          go_wp2
          go_ret
          exact ⟨ret_bool (by rw [HE.out, decide_eq_false HE1.out]; simp), hB0⟩
      | false =>
        have HE := Lib.hid (HR.out.trans (shB_inner HKO.out))
        by_cases e1 : vs.length = 0
        · have g1 : ((vs.length : Int) == 0) = true := by simp [e1]
          have HE1 := Lib.hid e1
          clear e1
          by_cases e2 : is.length = ks.length + 1
          · have g2 : ((is.length : Int) == (ks.length : Int) + 1) = true := by rw [beq_iff_eq]; omega
            have HE2 := Lib.hid e2
            clear e2
            go_wp2_with (go_at_call 44; refine HC2.out.mono ?_; rintro e w2 ⟨rfl, rfl⟩)
            go_ret
            exact ⟨ret_bool (by rw [HE.out, decide_eq_true HE1.out, decide_eq_true HE2.out]; simp), hB0⟩
          · have g2 : ((is.length : Int) == (ks.length : Int) + 1) = false := by rw [beq_eq_false_iff_ne]; omega
            have HE2 := Lib.hid e2
            clear e2
            go_wp2
            go_ret
            exact ⟨ret_bool (by rw [HE.out, decide_eq_false HE2.out]; simp), hB0⟩
        · have g1 : ((vs.length : Int) == 0) = false := by rw [beq_eq_false_iff_ne]; omega
          have HE1 := Lib.hid e1
          clear e1
          go_wp2
          go_ret
          exact ⟨ret_bool (by rw [HE.out, decide_eq_false HE1.out]; simp), hB0⟩
end Go.Proofs.Ytbngcinhjoigaaa
