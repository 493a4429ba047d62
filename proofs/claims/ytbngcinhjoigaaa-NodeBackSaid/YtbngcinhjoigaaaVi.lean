/-
  The contract of munimentref09.Shaped.
-/
import Derived.Test.YtbngcinhjoigaaaVh
set_option linter.unusedVariables false
namespace Go.Proofs.Ytbngcinhjoigaaa
open Go.RowKit

set_option maxRecDepth 8000 in
set_option maxHeartbeats 8000000 in
theorem rshaped_any (lf : Bool) (Ak : Option Addr) (ks : List (List Int)) (ck : Nat) (Av : Option Addr) (vs : List (List Int)) (cv : Nat) (Ai : Option Addr) (is : List Int) (ci : Nat) (w : World) (h : NodeAt w Ak ks ck Av vs cv Ai is ci) (h1 : LenLe ks 100000) (h3 : ks.length ≤ 100000) (h4 : vs.length ≤ 1000000) (h5 : is.length ≤ 1000000) :
    Calls Try.prog 38 #[nodeV lf Ak ks ck Av vs cv Ai is ci] w fun e w' => e = .returned (.bool (shB lf ks vs is)) ∧ Below w.heap.size w w' := by
  have HNO : Hid (¬ KeysOK ks → shB lf ks vs is = false) := Lib.hid shB_no
  have HNV : Hid (¬ LenLe vs 260 → shB lf ks vs is = false) := Lib.hid fun x => decide_eq_false fun y => x y.2.1
  have HNI : Hid (¬ KidsOK is → shB lf ks vs is = false) := Lib.hid fun x => decide_eq_false fun y => x y.2.2.1
  obtain ⟨R, hR⟩ : ∃ R, R = shB lf ks vs is := ⟨_, rfl⟩
  rw [← hR] at HNO HNV HNI ⊢
  have HR := Lib.hid hR
  clear hR
  obtain ⟨W, hW⟩ : ∃ W, W = w.alloc (.cells #[.bool lf, .slice Ak ks.length ck, .slice Av vs.length cv, .slice Ai is.length ci] 29) := ⟨_, rfl⟩
  have hF : Four W w.heap.size (.bool lf) (.slice Ak ks.length ck) (.slice Av vs.length cv) (.slice Ai is.length ci) := by rw [hW]; exact Four.new w _ _ _ _ _
  have hB0 : Below w.heap.size w W := by rw [hW]; exact (Below.refl _ _).alloc (Nat.le_refl _) _
  have hWz : w.heap.size < W.heap.size := by rw [hW]; simp
  have hN := h.below hB0
  have HW := Lib.hid hW
  clear hW h
  go_enter Try.func38, Try.ntmps38
  go_wp2
  go_loopw [3] (fun i wr => ∃ k : Nat, i = .int .i64 k ∧ k ≤ ks.length ∧ Hid (∀ j, j < k → KeyOK ks j) ∧ Below W.heap.size W wr)
    (fun i _ => ks.length - (intOf i).toNat)
  case atStart => exact ⟨0, rfl, Nat.zero_le _, Lib.hid (fun j hj => absurd hj (by omega)), by rw [HW.out]; exact Below.refl _ _⟩
  case round =>
    obtain ⟨k, rfl, hk, HALL, hB⟩ := hrel
    have hBw := hB0.trans (hB.mono (Nat.le_of_lt hWz))
    obtain ⟨c0, c1, c3, c4⟩ := hF.below hB hWz
    by_cases hlt : k < ks.length
    · have hkI : (k : Int) < (ks.length : Int) := by omega
      obtain ⟨b, off, A', c, rfl, hb, hc, hcl, hoc, _⟩ := (hN.below hB).keys k hlt
      have HG : Hid (ks.getD k [] = ks[k]) := Lib.hid (getD_at hlt)
      have HNK : Hid (¬ KeyOK ks k → R = false) := Lib.hid fun x => HNO.out fun y => x (y k hlt)
      have hxl := h1.at_ hlt
      by_cases g3 : k = 0
      · generalize ks[k] = x at *
        by_cases g1 : x.length < 1
        · have HE := Lib.hid (HNK.out fun y => by have := y.1; rw [HG.out] at this; omega)
          have g1I : (x.length : Int) < 1 := by omega
          clear g3
          go_wp2
          have d1 : decide ((x.length : Int) < 1) = true := decide_eq_true (by omega)
          go_quiet (fail)
          go_wp2
          go_ret
          exact ⟨ret_bool HE.out.symm, below_drewN hBw _⟩
        · have g1I : ¬ (x.length : Int) < 1 := by omega
          by_cases g2 : 240 < x.length
          · have HE := Lib.hid (HNK.out fun y => by have := y.2.1; rw [HG.out] at this; omega)
            have g2I : (240 : Int) < (x.length : Int) := by omega
            clear g3
            go_wp2
            have d1 : decide ((x.length : Int) < 1) = false := decide_eq_false (by omega)
            have d2 : decide ((240 : Int) < (x.length : Int)) = true := decide_eq_true (by omega)
            go_quiet (fail)
            go_wp2
            go_ret
            exact ⟨ret_bool HE.out.symm, below_drewN hBw _⟩
          · have g2I : ¬ (240 : Int) < (x.length : Int) := by omega
            have HOK : Hid (KeyOK ks k) := Lib.hid ⟨by rw [HG.out]; omega, by rw [HG.out]; omega, fun hp => absurd hp (by omega)⟩
            have hk0 : ¬ (0 : Int) < (k : Int) := by omega
            have HK0 := Lib.hid g3
            clear g3
            go_wp2
            have d1 : decide ((x.length : Int) < 1) = false := decide_eq_false (by omega)
            have d2 : decide ((240 : Int) < (x.length : Int)) = false := decide_eq_false (by omega)
            have d3 : decide (0 < k) = false := decide_eq_false (by omega)
            go_quiet (fail)
            go_wp2
            go_roundw
            case rel => exact ⟨k + 1, by go_num, by omega, Lib.hid (fun j hj => by obtain rfl : j = k := (by have := HK0.out; omega); exact HOK.out), below_drewN hB _⟩
            case measure => simp [intOf]; omega
      · obtain ⟨q, hq⟩ : ∃ q : Nat, k = q + 1 := ⟨k - 1, by omega⟩
        have hqk : q < ks.length := by omega
        obtain ⟨b2, off2, A2, c2, e, hb2, hc2, hcl2, hoc2, _⟩ := (hN.below hB).keys q hqk
        injection e with e
        injection e with e1 e2
        subst e1 e2
        have HG2 : Hid (ks.getD (k - 1) [] = ks[q]) := Lib.hid (by rw [show k - 1 = q by omega]; exact getD_at hqk)
        have hyl := h1.at_ hqk
        generalize ks[k] = x at *
        generalize ks[q] = y at *
        have hqm : IntKind.i64.wrap ((k : Int) - 1) = (q : Int) := by rw [IntKind.wrap_i64]; omega
        have hqI : (q : Int) < (ks.length : Int) := by omega
        have hk0 : (0 : Int) < (k : Int) := by omega
        have HQ := Lib.hid hq
        clear hq g3
        by_cases g1 : x.length < 1
        · have HE := Lib.hid (HNK.out fun y => by have := y.1; rw [HG.out] at this; omega)
          have g1I : (x.length : Int) < 1 := by omega
          go_wp2
          have d1 : decide ((x.length : Int) < 1) = true := decide_eq_true (by omega)
          go_quiet (fail)
          go_wp2
          go_ret
          exact ⟨ret_bool HE.out.symm, below_drewN hBw _⟩
        · have g1I : ¬ (x.length : Int) < 1 := by omega
          by_cases g2 : 240 < x.length
          · have HE := Lib.hid (HNK.out fun y => by have := y.2.1; rw [HG.out] at this; omega)
            have g2I : (240 : Int) < (x.length : Int) := by omega
            go_wp2
            have d1 : decide ((x.length : Int) < 1) = false := decide_eq_false (by omega)
            have d2 : decide ((240 : Int) < (x.length : Int)) = true := decide_eq_true (by omega)
            go_quiet (fail)
            go_wp2
            go_ret
            exact ⟨ret_bool HE.out.symm, below_drewN hBw _⟩
          · have g2I : ¬ (240 : Int) < (x.length : Int) := by omega
            have HC : Hid (∀ n, Calls Try.prog 24 #[.slice A2 y.length c2, .slice A' x.length c] (wr.drewN n) fun e w' => e = .returned (.bool (lessB y x)) ∧ ∃ m, w' = (wr.drewN n).drewN m) := Lib.hid fun n =>
              less_any A2 A' y x c2 c _ (hcl2.drewN n) (hcl.drewN n) (by omega) (by omega) hoc2 hoc
            cases hl : lessB y x with
            | true =>
              have HOK : Hid (KeyOK ks k) := Lib.hid ⟨by rw [HG.out]; omega, by rw [HG.out]; omega, fun hp => by rw [HG.out, HG2.out]; exact hl⟩
              rw [hl] at HC
              clear hl
              go_wp2
              have d1 : decide ((x.length : Int) < 1) = false := decide_eq_false (by omega)
              have d2 : decide ((240 : Int) < (x.length : Int)) = false := decide_eq_false (by omega)
              have d3 : decide (0 < k) = true := decide_eq_true (by omega)
              go_quiet (first | (go_at_call 24; exact Calls.quiet_of (HC.out _)))
              clear hqm
              go_wp2
              go_roundw
              case rel => exact ⟨k + 1, by go_num, by omega, Lib.hid (fun j hj => by
                rcases Nat.lt_or_ge j k with h1 | h1
                · exact HALL.out j h1
                · obtain rfl : j = k := by omega
                  exact HOK.out), below_drewN hB _⟩
              case measure => simp [intOf]; omega
            | false =>
              have HE := Lib.hid (HNK.out fun y => by have := y.2.2 (by omega); rw [HG.out, HG2.out, hl] at this; cases this)
              rw [hl] at HC
              clear hl
              go_wp2
              have d1 : decide ((x.length : Int) < 1) = false := decide_eq_false (by omega)
              have d2 : decide ((240 : Int) < (x.length : Int)) = false := decide_eq_false (by omega)
              have d3 : decide (0 < k) = true := decide_eq_true (by omega)
              go_quiet (first | (go_at_call 24; exact Calls.quiet_of (HC.out _)))
              clear hqm
              go_wp2
              go_ret
              exact ⟨ret_bool HE.out.symm, below_drewN hBw _⟩
    · have hgl : ¬ (k : Int) < (ks.length : Int) := by omega
      have HKO := Lib.hid (KeysOK.step HALL.out (by omega))
      clear HALL HNO
      have hV := (hN.below hB).vals
      have hI := (hN.below hB).kids
      have HBW := Lib.hid hBw
      clear hBw hB hN hF hB0 HW
      go_wp2
      go_loop [4] (fun i => ∃ k : Nat, i = .int .i64 k ∧ k ≤ vs.length ∧ (∀ j (hj : j < vs.length), j < k → (vs[j]).length ≤ 260))
        (fun i => vs.length - (intOf i).toNat)
      case atStart => exact ⟨0, rfl, Nat.zero_le _, fun j hj h => absurd h (by omega)⟩
      case round =>
        obtain ⟨k, rfl, hk, hall⟩ := hrel
        by_cases hlt : k < vs.length
        · have hkI : (k : Int) < (vs.length : Int) := by omega
          obtain ⟨b, off, A', c, rfl, hb, hc, _⟩ := hV k hlt
          by_cases hle : (vs[k]).length ≤ 260
          · have HALL : Hid (∀ j (hj : j < vs.length), j < k + 1 → (vs[j]).length ≤ 260) := Lib.hid fun j hj h => by
              rcases Nat.lt_or_ge j k with h1 | h1
              · exact hall j hj h1
              · obtain rfl : j = k := by omega
                exact hle
            clear hall
            generalize (vs[k]).length = m at *
            go_wp2
            go_round
            case rel => exact ⟨k + 1, by go_num, by omega, HALL.out⟩
            case measure => simp [intOf]; omega
          · have HN : Hid (R = false) := Lib.hid (HNV.out fun hh => hle (hh.at_ hlt))
            clear hall
            generalize (vs[k]).length = m at *
            go_wp2
            go_ret
            exact ⟨ret_bool HN.out.symm, HBW.out⟩
        · have HV : Hid (LenLe vs 260) := Lib.hid (LenLe.step hall (by omega))
          clear hall HNV
          go_wp2
          go_loop [5] (fun i => ∃ k : Nat, i = .int .i64 k ∧ k ≤ is.length ∧ (∀ j (hj : j < is.length), j < k → 0 ≤ is[j] ∧ is[j] ≤ 2147483647))
            (fun i => is.length - (intOf i).toNat)
          case atStart => exact ⟨0, rfl, Nat.zero_le _, fun j hj h => absurd h (by omega)⟩
          case round =>
            obtain ⟨k, rfl, hk, hall⟩ := hrel
            by_cases hlt : k < is.length
            · have hkI : (k : Int) < (is.length : Int) := by omega
              obtain ⟨b, off, rfl, hb, hc⟩ := hI.i8 hlt
              by_cases hle : 0 ≤ is[k] ∧ is[k] ≤ 2147483647
              · have HALL : Hid (∀ j (hj : j < is.length), j < k + 1 → 0 ≤ is[j] ∧ is[j] ≤ 2147483647) := Lib.hid fun j hj h => by
                  rcases Nat.lt_or_ge j k with h1 | h1
                  · exact hall j hj h1
                  · obtain rfl : j = k := by omega
                    exact hle
                clear hall
                obtain ⟨x1, x2⟩ := hle
                generalize is[k] = m at *
                have g1 : ¬ m < 0 := by omega
                have g2 : ¬ 2147483647 < m := by omega
                go_wp2
                go_round
                case rel => exact ⟨k + 1, by go_num, by omega, HALL.out⟩
                case measure => simp [intOf]; omega
              · have HN : Hid (R = false) := Lib.hid (HNI.out fun hh => hle (hh.at_ hlt))
                have hcs : is[k] < 0 ∨ (0 ≤ is[k] ∧ 2147483647 < is[k]) := by omega
                clear hall hle
                generalize is[k] = m at *
                rcases hcs with x1 | ⟨x1, x2⟩
                · go_wp2
                  go_ret
                  exact ⟨ret_bool HN.out.symm, HBW.out⟩
                · have g1 : ¬ m < 0 := by omega
                  go_wp2
                  go_ret
                  exact ⟨ret_bool HN.out.symm, HBW.out⟩
            · have HI : Hid (KidsOK is) := Lib.hid (KidsOK.step hall (by omega))
              clear hall HNI
              have HE := Lib.hid (HR.out.trans (shB_both HKO.out HV.out HI.out))
              cases lf with
              | true =>
                by_cases e2 : is.length = 0
                · have g2 : ((is.length : Int) == 0) = true := by simp [e2]
                  have HE2 := Lib.hid e2
                  clear e2
                  go_wp2
                  go_ret
                  exact ⟨ret_bool (by rw [HE.out, if_pos trivial, decide_eq_true HE2.out, Bool.true_and]; rw [Bool.eq_iff_iff]; simp; omega), HBW.out⟩
                · have g2 : ((is.length : Int) == 0) = false := by rw [beq_eq_false_iff_ne]; omega
                  have HE2 := Lib.hid e2
                  clear e2
                  go_wp2
                  go_ret
                  exact ⟨ret_bool (by rw [HE.out, if_pos trivial, decide_eq_false HE2.out, Bool.false_and]), HBW.out⟩
              | false =>
                by_cases e2 : vs.length = 0
                · have g2 : ((vs.length : Int) == 0) = true := by simp [e2]
                  have HE2 := Lib.hid e2
                  clear e2
                  go_wp2
                  go_ret
                  exact ⟨ret_bool (by rw [HE.out, if_neg (by decide), decide_eq_true HE2.out, Bool.true_and]; rw [Bool.eq_iff_iff]; simp; omega), HBW.out⟩
                · have g2 : ((vs.length : Int) == 0) = false := by rw [beq_eq_false_iff_ne]; omega
                  have HE2 := Lib.hid e2
                  clear e2
                  go_wp2
                  go_ret
                  exact ⟨ret_bool (by rw [HE.out, if_neg (by decide), decide_eq_false HE2.out, Bool.false_and]), HBW.out⟩
end Go.Proofs.Ytbngcinhjoigaaa
